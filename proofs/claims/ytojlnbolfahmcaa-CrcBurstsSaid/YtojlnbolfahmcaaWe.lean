/-
  The contracts of crc.Sum and crc.Put: what each returns and what becomes of memory.
  Conditions: lengths as the statements bound them.
-/
import Derived.Test.YtojlnbolfahmcaaWd
namespace Go.Proofs.Ytojlnbolfahmcaa
open Go.RowKit

set_option maxHeartbeats 400000 in
theorem sum_any (AA : Option Addr) (k cc : Nat) (ps : List (List UInt8)) (w : World) (hp : RdS w none AA k ps) (hk : k ≤ 1000000) (hps : ∀ p ∈ ps, p.length ≤ 1000000) :
    Calls Try.prog 12 #[.slice AA k cc] w fun e w' => e = .returned (.int .u32 (Crc.sum ps.flatten : Int)) ∧ w.grownBy w' none := by
  have R1 := hide hp
  have P1 := hide hps
  clear hp hps
  go_enter Try.func12, Try.ntmps12
  go_wp2_with fail
  refine (new_any w).mono ?_
  rintro e w1 ⟨rfl, rfl⟩
  go_wp2_with fail
  refine (write_any w.heap.size 4294967295 AA k cc ps _ (Blk.new w 41 #[.int .u32 (4294967295 : Nat)]) (by decide) ((R1.out.apart (Nat.le_refl _)).grown (World.grownBy_alloc w _ none) (.inl rfl)) hk P1.out).mono ?_
  rintro e w2 ⟨rfl, hB, hG⟩
  have G2 := hide (p := w.grownBy w2 none) (gb_new (gb_alloc (gb_refl w none) _) hG (by intro g hg; injection hg with hg; exact .inl (by omega)))
  have B2 := hide hB
  clear hG hB
  have hR : Crc.reg 4294967295 ps.flatten < 4294967296 := Crc.reg_lt _ (by decide)
  go_wp2_with fail
  refine (hsum_any w2 w.heap.size _ hR (B2.out.cell 0)).mono ?_
  rintro e w3 ⟨rfl, rfl⟩
  go_wp2
  go_ret
  exact ⟨rfl, G2.out⟩

theorem own_base {w : World} {b b' n : Nat} {v : Value} {xs : List Value} (h : w.ownsRow b 5 1 v n xs) (hb : b' ≤ b) : w.ownsRow b' 5 1 v n xs := by
  refine ⟨h.1, ?_⟩
  rcases h.2 with h0 | ⟨g, cap, cur, hv, hg, rest⟩
  · exact .inl h0
  · exact .inr ⟨g, cap, cur, hv, by omega, rest⟩

/-- A slice of one slice that has just been made. -/
theorem rds_one (w : World) {A : Option Addr} {n c : Nat} {l : List UInt8} (hr : Rd w none A n l) (hc : n ≤ c) :
    RdS (w.alloc (.cells #[.slice A n c] 25)) none (some ⟨w.heap.size, 0, none⟩) 1 [l] := by
  refine ⟨rfl, fun _ => ⟨w.heap.size, 0, rfl, by simp, fun i hi => ?_⟩⟩
  have h0 : i = 0 := by simp at hi; omega
  subst h0
  exact ⟨A, n, c, (Blk.new w 25 #[.slice A n c]).cell 0, hc, hr.grown (World.grownBy_alloc w _ none) (.inl rfl)⟩

/-- The sum of one part that has just been laid into a slice of parts. -/
theorem sum_one (A : Option Addr) (n c : Nat) (l : List UInt8) (w : World) (hr : Rd w none A n l) (hc : n ≤ c) (hn : n ≤ 1000000) :
    Calls Try.prog 12 #[.slice (some ⟨w.heap.size, 0, none⟩) 1 1] (w.alloc (.cells #[.slice A n c] 25)) fun e w' => e = .returned (.int .u32 (Crc.sum l : Int)) ∧ w.grownBy w' none := by
  refine (sum_any _ 1 1 [l] _ (rds_one w hr hc) (by omega) (by simp; rw [hr.1]; exact hn)).mono ?_
  rintro e w' ⟨rfl, hg⟩
  refine ⟨by simp, gb_trans (World.grownBy_alloc w _ none) hg⟩

set_option maxHeartbeats 400000 in
theorem crcPut_any (A : Option Addr) (n c : Nat) (l : List UInt8) (w : World) (hr : Rd w none A n l) (hc : n ≤ c) (hn : n ≤ 1000000) :
    Calls Try.prog 14 #[.slice A n c] w (GivesRow w (n + 4) (Crc.put l)) := by
  have R1 := hide hr
  have hsl := Crc.sum_lt l
  clear hr
  go_enter Try.func14, Try.ntmps14
  go_wp2_with fail
  refine (sum_one A n c l w R1.out hc hn).mono ?_
  rintro e w1 ⟨rfl, hg⟩
  have G1 := hide hg
  clear hg
  go_wp2_with fail
  refine (cursorPut_any A n c l (Crc.sum l) w1 (R1.out.grown G1.out (.inl rfl)) hn hsl).mono ?_
  rintro e w2 ⟨A2, c2, rfl, hc2, hown, hgrow⟩
  have O2 := hide hown
  have G2 := hide (gb_trans G1.out hgrow)
  have S1 := hide G1.out.size
  clear hown hgrow
  go_wp2
  go_ret
  exact ⟨A2, c2, rfl, hc2, own_base O2.out S1.out, G2.out⟩
end Go.Proofs.Ytojlnbolfahmcaa
