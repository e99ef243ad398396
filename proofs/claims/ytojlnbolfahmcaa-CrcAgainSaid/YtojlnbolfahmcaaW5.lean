/-
  The walk of corduroylaw05.CrcAgain over its callees by their contracts.
  Conditions: lengths as the statements bound them.
-/
import Derived.Test.YtojlnbolfahmcaaWg
namespace Go.Proofs.Ytojlnbolfahmcaa
open Go.RowKit

set_option maxHeartbeats 1000000 in
theorem walk5 (A B : Option Addr) (n c n' c' : Nat) (l m : List UInt8) (w : World) (hr : Rd w none A n l) (hs : Rd w none B n' m) (hc : n ≤ c) (hc' : n' ≤ c') (hn : n ≤ maxLen) (hn' : n' ≤ maxLen) :
    Calls Try.prog 5 #[.slice A n c, .slice B n' c'] w fun e w' => e = .returned (.bool true) ∧ Below w.heap.size w w' := by
  unfold maxLen at hn hn'
  by_cases h1 : n ≤ 300
  · by_cases h2 : n' ≤ 300
    · have R1 := hide hr
      have R2 := hide hs
      clear hr hs
      have hsum := hide (Crc.sum_put l m)
      go_enter Try.func5, Try.ntmps5
      go_wp2_with fail
      refine (crcPut_any A n c l w R1.out hc (by omega)).mono ?_
      rintro e w1 ⟨A1, c1, rfl, hc1, hown, hgrow⟩
      have O1 := hide hown
      have G1 := hide hgrow
      clear hown hgrow
      go_wp2_with fail
      refine (crcPut_any B n' c' m w1 (R2.out.grown G1.out (.inl rfl)) hc' (by omega)).mono ?_
      rintro e w2 ⟨A2, c2, rfl, hc2, hown, hgrow⟩
      have O2 := hide hown
      have G2 := hide (gb_trans G1.out hgrow)
      have R3 := hide ((own_rd O1.out).grown hgrow (.inl rfl))
      clear hown hgrow
      go_wp2_with fail
      refine (sum_one A1 (n + 4) c1 (Crc.put l) w2 R3.out hc1 (by omega)).mono ?_
      rintro e w3 ⟨rfl, hg⟩
      have G3 := hide (gb_trans G2.out hg)
      have R4 := hide ((own_rd O2.out).grown hg (.inl rfl))
      clear hg
      go_wp2_with fail
      refine (sum_one A2 (n' + 4) c2 (Crc.put m) w3 R4.out hc2 (by omega)).mono ?_
      rintro e w4 ⟨rfl, hg⟩
      have G4 := hide (gb_trans G3.out hg)
      clear hg
      rw [← hsum.out]
      go_wp2_with fail
      refine (awake_any w4).mono ?_
      rintro e w5 ⟨rfl, hg⟩
      have G5 := hide (gb_trans G4.out hg)
      clear hg
      go_wp2_with fail
      go_ret
      exact ⟨rfl, gb_below G5.out⟩
    · have h2' : 300 < n' := by omega
      clear hr hs
      go_enter Try.func5, Try.ntmps5
      go_wp2_with fail
      go_ret
      exact ⟨rfl, Below.refl _ _⟩
  · have h1' : 300 < n := by omega
    clear hr hs
    go_enter Try.func5, Try.ntmps5
    go_wp2_with fail
    all_goals (go_ret; exact ⟨rfl, Below.refl _ _⟩)
end Go.Proofs.Ytojlnbolfahmcaa
