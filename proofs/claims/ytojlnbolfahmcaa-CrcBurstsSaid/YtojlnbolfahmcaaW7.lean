/-
  The walk of corduroylaw05.CrcBursts over its callees by their contracts.
  Conditions: lengths as the statements bound them.
-/
import Derived.Test.YtojlnbolfahmcaaW6
import Derived.Test.YtojlnbolfahmcaaWt
namespace Go.Proofs.Ytojlnbolfahmcaa
open Go.RowKit

theorem Tur.fits {l d : List UInt8} {at_ : Nat} (h : Tur (Crc.put l) at_ 32 d) (ha : at_ ≤ 8 * (Crc.put l).length) : Crc.fits d = decide (d = Crc.put l) := by
  obtain ⟨h1, p, hp, hv⟩ := h
  exact Crc.fits_burst (Crc.put l) d at_ p (Crc.fits_put l) (by rw [Crc.put_length]; omega) h1 ha hp hv

def D7 (A1 A2 : Option Addr) (m c1 c2 : Nat) (e d : List UInt8) : List (Nat × (Value → World → Prop)) :=
  [(7, IsRd A1 m c1 e), (8, IsRd A2 m c2 d), (29, IsRd A2 m c2 d), (30, Is (.bool (Crc.fits d))), (31, IsRd A2 m c2 d), (32, Is (.string ⟨d.toArray⟩)), (33, IsRd A1 m c1 e), (34, Is (.string ⟨e.toArray⟩)),
   (35, Is (.bool (decide (d = e)))), (36, Is (.bool true)), (37, Is (.bool true)), (38, Is (.bool true)), (39, Is (.bool true)), (6, Is (.bool true))]

set_option maxHeartbeats 1000000 in
theorem walk7 (A : Option Addr) (n c : Nat) (l : List UInt8) (at_ pat : Nat) (w : World) (hr : Rd w none A n l) (hc : n ≤ c) (hn : n ≤ maxLen) (hat : at_ < 65536) :
    Calls Try.prog 7 #[.slice A n c, .int .u16 (at_ : Int), .int .u32 (pat : Int)] w fun e w' => e = .returned (.bool true) ∧ Below w.heap.size w w' := by
  unfold maxLen at hn
  by_cases h4 : n ≤ 300
  · have R1 := hide hr
    have L1 := hide hr.1
    clear hr
    have hmod : at_ % (8 * (n + 4)) ≤ 8 * (n + 4) := Nat.le_of_lt (Nat.mod_lt _ (by omega))
    go_enter Try.func7, Try.ntmps7
    go_wp2_with fail
    refine (crcPut_any A n c l w R1.out hc (by omega)).mono ?_
    rintro e w1 ⟨A1, c1, rfl, hc1, hown, hgrow⟩
    have O1 := hide hown
    have G1 := hide hgrow
    clear hown hgrow
    go_wp2_with fail
    have hmi : ((at_ : Int) % (8 * ((n : Int) + 4))) = ((at_ % (8 * (n + 4)) : Nat) : Int) := by simp
    rw [hmi]
    have hpl : (Crc.put l).length = n + 4 := by rw [Crc.put_length, L1.out]
    have HP := hide hpl
    clear hmi hpl
    generalize at_ % (8 * (n + 4)) = p at *
    refine (turned_any A1 (n + 4) c1 (Crc.put l) p pat w1 (own_rd O1.out) (by omega) hmod).mono ?_
    rintro e w2 ⟨A2, c2, d, rfl, hc2, hrd, htur, hgrow⟩
    have R2 := hide hrd
    have R3 := hide ((own_rd O1.out).grown hgrow (.inl rfl))
    have G2 := hide (gb_trans G1.out hgrow)
    have F2 := hide (htur.fits (by rw [HP.out]; exact hmod))
    clear hrd htur hgrow
    generalize Crc.put l = q at *
    go_wp2_with fail
    refine wp_region_inv (by kernel_rfl) (look (D7 A1 A2 (n + 4) c1 c2 q d)) [7, 8] (look_mono _ ?mono) (by kernel_rfl) ?start ?steps ?fin
    case mono =>
      repeat (refine all_cons' ?_ ?_)
      all_goals first | exact all_nil | exact Is.mono _ | exact IsRd.mono _ _ _ _
    case start => exact all_cons ⟨rfl, R3.out⟩ (all_cons ⟨rfl, R2.out⟩ all_nil)
    case steps =>
      refine all_cons (step_move (s := 8) (d := 29) (wants_none rfl) rfl (.inl rfl) (by kernel_rfl) fun _ _ h => h) ?_
      refine all_cons (step_call1 (s := 29) (d := 30) (f := 16) (n := n + 4) (l := d) (wants_none rfl) rfl rfl (by kernel_rfl) (fun _ _ h => IsRd.sl hc2 h) enter16 fun A' c' w' hr' hc' => fits16 A' (n + 4) c' d w' _ rfl (by omega) hr' hc') ?_
      refine all_cons (step_move (s := 8) (d := 31) (wants_none rfl) rfl (.inl rfl) (by kernel_rfl) fun _ _ h => h) ?_
      refine all_cons (step_conv (s := 31) (d := 32) (n := n + 4) (l := d) (wants_none rfl) rfl rfl (by kernel_rfl) (fun _ _ h => IsRd.sl hc2 h) fun _ => rfl) ?_
      refine all_cons (step_move (s := 7) (d := 33) (wants_none rfl) rfl (.inl rfl) (by kernel_rfl) fun _ _ h => h) ?_
      refine all_cons (step_conv (s := 33) (d := 34) (n := n + 4) (l := q) (wants_none rfl) rfl rfl (by kernel_rfl) (fun _ _ h => IsRd.sl hc1 h) fun _ => rfl) ?_
      refine all_cons (step_eqstr (s := 32) (t := 34) (d := 35) (l := d) (m := q) (wants_none rfl) rfl rfl (by kernel_rfl) (by kernel_rfl) (fun _ _ h => h) (fun _ _ h => h) fun _ => rfl) ?_
      refine all_cons (step_eqbool (s := 30) (t := 35) (d := 36) (x := Crc.fits d) (y := decide (d = q)) (wants_none rfl) rfl rfl (by kernel_rfl) (by kernel_rfl) F2.out (fun _ _ h => h) (fun _ _ h => h) fun _ => rfl) ?_
      refine all_cons (step_move (s := 36) (d := 37) (wants_none rfl) rfl (.inl rfl) (by kernel_rfl) fun _ _ h => h) ?_
      refine all_cons (step_awake (d := 38) (wants_bool (g := 8) (d := 37) rfl rfl (by kernel_rfl) fun _ _ h => h) rfl rfl fun _ => rfl) ?_
      refine all_cons (step_pick (s := 37) (t := 38) (d := 39) (wants_none rfl) rfl rfl (by kernel_rfl) (by kernel_rfl) (fun _ _ h => h) (fun _ _ h => h) fun _ => rfl) ?_
      refine all_cons (step_move (s := 39) (d := 6) (wants_none rfl) rfl (.inr rfl) (by kernel_rfl) fun _ _ h => h) all_nil
    case fin =>
      intro a w3 hg hd hD
      have h2 : a.tmps.getD 6 undef = .bool true := hD 11 _ 6 rfl rfl
      have H2 := hide h2
      clear h2
      go_wp2
      exact bodyPost_ret (v := .bool true) (by simp [results, Try.results7, sl H2.out]) hd ⟨rfl, gb_below (gb_trans G2.out hg)⟩
  · have h4' : 300 < n := by omega
    clear hr
    go_enter Try.func7, Try.ntmps7
    go_wp2_with fail
    go_ret
    exact ⟨rfl, Below.refl _ _⟩
end Go.Proofs.Ytojlnbolfahmcaa
