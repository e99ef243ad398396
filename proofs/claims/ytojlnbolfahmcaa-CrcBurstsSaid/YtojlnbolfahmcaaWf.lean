/-
  The contracts of crc.Fits and of the reference Fits: both tell whether the last four bytes are the sum of those ahead.
  Conditions: lengths as the statements bound them.
-/
import Derived.Test.YtojlnbolfahmcaaWe
import Derived.Test.YtojlnbolfahmcaaReg
import Derived.Deep.QuietTactic
import Derived.BigQuiet
namespace Go.Proofs.Ytojlnbolfahmcaa
open Go.RowKit

set_option maxHeartbeats 400000 in
theorem crcFits_any (A : Option Addr) (n c : Nat) (l : List UInt8) (w : World) (hr : Rd w none A n l) (hc : n ≤ c) (hn : n ≤ 1000000) :
    Calls Try.prog 16 #[.slice A n c] w fun e w' => e = .returned (.bool (Crc.fits l)) ∧ w.grownBy w' none := by
  by_cases h4 : 4 ≤ n
  · obtain ⟨m, rfl⟩ : ∃ m, n = m + 4 := ⟨n - 4, by omega⟩
    have R1 := hide hr
    clear hr h4
    go_enter Try.func16, Try.ntmps16
    go_wp2_with fail
    refine (crcPut_any A m c (l.take m) w (R1.out.take (by omega)) (by omega) (by omega)).mono ?_
    rintro e w1 ⟨A2, c2, rfl, hc2, hown, hgrow⟩
    have O1 := hide hown
    have G1 := hide hgrow
    clear hown hgrow
    go_wp2_with fail
    refine (equal_any A2 A (m + 4) c2 (m + 4) c (Crc.put (l.take m)) l w1 (own_rd O1.out) (R1.out.grown G1.out (.inl rfl))).mono ?_
    rintro e w2 ⟨rfl, rfl⟩
    go_wp2
    go_ret
    refine ⟨ret_bool ?_, G1.out⟩
    unfold Crc.fits
    rw [R1.out.1]
    simp
  · have hf : Hid (Crc.fits l = false) := by
      show _ = _
      unfold Crc.fits
      rw [hr.1]
      simp [h4]
    clear hr
    have h4' : n < 4 := by omega
    go_enter Try.func16, Try.ntmps16
    go_wp2_with fail
    go_ret
    exact ⟨ret_bool hf.out.symm, gb_refl _ _⟩

/-! what a slot may hold -/
def Is (x : Value) : Value → World → Prop := fun v _ => v = x
def IsRd (A : Option Addr) (n c : Nat) (l : List UInt8) : Value → World → Prop := fun v w => v = .slice A n c ∧ Rd w none A n l
def IsSl (n : Nat) (l : List UInt8) : Value → World → Prop := fun v w => ∃ A c, v = .slice A n c ∧ n ≤ c ∧ Rd w none A n l
def IsPart (l : List UInt8) : Value → World → Prop := fun v w => ∃ A, v = .slice A 1 1 ∧ RdS w none A 1 [l]
def Mono (p : Value → World → Prop) : Prop := ∀ v w w', p v w → w.grownBy w' none → p v w'
theorem Is.mono (x : Value) : Mono (Is x) := fun _ _ _ h _ => h
theorem IsRd.mono (A : Option Addr) (n c : Nat) (l : List UInt8) : Mono (IsRd A n c l) := fun _ _ _ h hg => ⟨h.1, h.2.grown hg (.inl rfl)⟩
theorem IsSl.mono (n : Nat) (l : List UInt8) : Mono (IsSl n l) := fun _ _ _ h hg => by
  obtain ⟨A, c, h1, h2, h3⟩ := h
  exact ⟨A, c, h1, h2, h3.grown hg (.inl rfl)⟩
theorem IsPart.mono (l : List UInt8) : Mono (IsPart l) := fun _ _ _ h hg => by
  obtain ⟨A, h1, h2⟩ := h
  exact ⟨A, h1, h2.grown hg (.inl rfl)⟩
def look : List (Nat × (Value → World → Prop)) → Nat → Value → World → Prop
  | [], _ => fun _ _ => True
  | x :: L, t => if t = x.1 then x.2 else look L t
theorem look_mono (L : List (Nat × (Value → World → Prop))) (h : ∀ x ∈ L, Mono x.2) : ∀ t v w w', look L t v w → w.grownBy w' none → look L t v w' := by
  induction L with
  | nil => intro t v w w' _ _; trivial
  | cons x L ih =>
    intro t v w w' hl hg
    unfold look at hl ⊢
    split
    · rename_i e; rw [if_pos e] at hl; exact h x (by simp) v w w' hl hg
    · rename_i e; rw [if_neg e] at hl; exact ih (fun y hy => h y (by simp [hy])) t v w w' hl hg
theorem sl {a : Act} {t : Nat} {v : Value} (h : a.eval (.tmp t) = v) : a.tmps[t]?.getD undef = v := by simpa [Act.eval] using h
theorem str_eq (l m : List UInt8) : Value.bool (l == m) = Value.bool (decide (l = m)) := by congr 1; rw [Bool.eq_iff_iff]; simp
theorem all_cons {α : Type} {p : α → Prop} {x : α} {l : List α} (h1 : p x) (h2 : ∀ y ∈ l, p y) : ∀ y ∈ x :: l, p y := by
  intro y hy
  rcases List.mem_cons.1 hy with rfl | hy
  · exact h1
  · exact h2 y hy
theorem all_cons' {α : Type} {p : α → Prop} {x : α} {l : List α} (h2 : ∀ y ∈ l, p y) (h1 : p x) : ∀ y ∈ x :: l, p y := all_cons h1 h2
theorem all_nil {α : Type} {p : α → Prop} : ∀ y ∈ ([] : List α), p y := fun _ h => by cases h

def D17 (A : Option Addr) (m c : Nat) (l : List UInt8) : List (Nat × (Value → World → Prop)) :=
  [(0, IsRd A (m + 4) c l), (3, IsRd A (m + 4) c l), (7, IsRd A (m + 4) c l), (8, IsRd A (m + 4) c l), (14, IsRd A (m + 4) c l),
   (4, Is (.int .i64 ((m : Int) + 4))), (9, Is (.int .i64 ((m : Int) + 4))), (5, Is (.bool true)), (6, Is (.bool true)), (10, Is (.int .i64 (m : Int))),
   (11, IsRd A m c (l.take m)), (12, IsSl (m + 4) (Crc.put (l.take m))), (13, Is (.string ⟨(Crc.put (l.take m)).toArray⟩)), (15, Is (.string ⟨l.toArray⟩)),
   (16, Is (.bool (decide (Crc.put (l.take m) = l)))), (17, Is (.bool (decide (Crc.put (l.take m) = l)))), (2, Is (.bool (decide (Crc.put (l.take m) = l))))]

set_option maxHeartbeats 400000 in
theorem refFits_any (A : Option Addr) (n c : Nat) (l : List UInt8) (w : World) (hr : Rd w none A n l) (hc : n ≤ c) (hn : n ≤ 1000000) :
    Calls Try.prog 17 #[.slice A n c] w fun e w' => e = .returned (.bool (Crc.fits l)) ∧ w.grownBy w' none := by
  by_cases h4 : 4 ≤ n
  · obtain ⟨m, rfl⟩ : ∃ m, n = m + 4 := ⟨n - 4, by omega⟩
    have R1 := hide hr
    clear hr h4
    go_enter Try.func17, Try.ntmps17
    go_wp2_with fail
    refine wp_region_inv (by kernel_rfl) (look (D17 A m c l)) [0] (look_mono _ ?mono) (by kernel_rfl) ?start ?steps ?fin
    case mono =>
      repeat (refine all_cons' ?_ ?_)
      all_goals first | exact all_nil | exact Is.mono _ | exact IsRd.mono _ _ _ _ | exact IsSl.mono _ _
    case start => exact all_cons ⟨rfl, R1.out⟩ all_nil
    case steps =>
      refine all_cons ?s0 (all_cons ?s1 (all_cons ?s2 (all_cons ?s3 (all_cons ?s4 (all_cons ?s5 (all_cons ?s6 (all_cons ?s7 (all_cons ?s8 (all_cons ?s9 (all_cons ?s10 (all_cons ?s11 (all_cons ?s12 (all_cons ?s13 (all_cons ?s14 (all_cons ?s15 all_nil)))))))))))))))
      case s0 =>
        intro a w1 hg hd
        have h0 := hd 0 (by kernel_rfl)
        refine ⟨wanted_plain rfl, fun d e => ?_⟩
        cases e
        exact leaves_run rfl (gb_refl _ _) h0
      case s1 =>
        intro a w1 hg hd
        have h0 := sl (hd 3 (by kernel_rfl)).1
        refine ⟨wanted_plain rfl, fun d e => ?_⟩
        cases e
        intro Q K hK
        go_simp
        exact hK _ _ (gb_refl _ _) rfl
      case s2 =>
        intro a w1 hg hd
        have h0 := sl (hd 4 (by kernel_rfl))
        refine ⟨wanted_plain rfl, fun d e => ?_⟩
        cases e
        intro Q K hK
        go_simp
        exact hK _ _ (gb_refl _ _) (congrArg Value.bool (decide_eq_true (by omega)))
      case s3 =>
        intro a w1 hg hd
        have h0 := hd 5 (by kernel_rfl)
        refine ⟨wanted_plain rfl, fun d e => ?_⟩
        cases e
        exact leaves_run rfl (gb_refl _ _) h0
      case s4 =>
        intro a w1 hg hd
        have h0 := hd 0 (by kernel_rfl)
        refine ⟨wanted_guard (g := 3) (d := 6) rfl rfl (hd 6 (by kernel_rfl)), fun d e => ?_⟩
        cases e
        exact leaves_run rfl (gb_refl _ _) h0
      case s5 =>
        intro a w1 hg hd
        have h0 := hd 0 (by kernel_rfl)
        refine ⟨wanted_guard (g := 3) (d := 6) rfl rfl (hd 6 (by kernel_rfl)), fun d e => ?_⟩
        cases e
        exact leaves_run rfl (gb_refl _ _) h0
      case s6 =>
        intro a w1 hg hd
        have h0 := sl (hd 8 (by kernel_rfl)).1
        refine ⟨wanted_guard (g := 3) (d := 6) rfl rfl (hd 6 (by kernel_rfl)), fun d e => ?_⟩
        cases e
        intro Q K hK
        go_simp
        exact hK _ _ (gb_refl _ _) rfl
      case s7 =>
        intro a w1 hg hd
        have h0 := sl (hd 9 (by kernel_rfl))
        refine ⟨wanted_guard (g := 3) (d := 6) rfl rfl (hd 6 (by kernel_rfl)), fun d e => ?_⟩
        cases e
        have hw : IntKind.i64.wrap (m : Int) = (m : Int) := IntWalk.i64_in _ (by omega)
        intro Q K hK
        go_simp
        exact hK _ _ (gb_refl _ _) rfl
      case s8 =>
        intro a w1 hg hd
        have h0 := sl (hd 7 (by kernel_rfl)).1
        have h1 := sl (hd 10 (by kernel_rfl))
        have hmc : m ≤ c := by omega
        refine ⟨wanted_guard (g := 3) (d := 6) rfl rfl (hd 6 (by kernel_rfl)), fun d e => ?_⟩
        cases e
        intro Q K hK
        go_simp
        exact hK _ _ (gb_refl _ _) ⟨rfl, (hd 7 (by kernel_rfl)).2.take (by omega)⟩
      case s9 =>
        intro a w1 hg hd
        obtain ⟨h0, hr⟩ := hd 11 (by kernel_rfl)
        refine ⟨wanted_guard (g := 3) (d := 6) rfl rfl (hd 6 (by kernel_rfl)), fun d e => ?_⟩
        cases e
        have h1 := sl h0
        refine leaves_call (f := 15) (args := #[.slice A m c]) ?_ ?_
        · go_simp
          go_show
        · refine (refPut_any A m c (l.take m) w1 hr (by omega)).mono ?_
          rintro e w2 ⟨A2, c2, rfl, hc2, hown, hgrow⟩
          exact ⟨_, rfl, hgrow, A2, c2, rfl, hc2, own_rd hown⟩
      case s10 =>
        intro a w1 hg hd
        obtain ⟨A2, c2, h0, hc2, hr⟩ := hd 12 (by kernel_rfl)
        refine ⟨wanted_guard (g := 3) (d := 6) rfl rfl (hd 6 (by kernel_rfl)), fun d e => ?_⟩
        cases e
        have h1 := sl h0
        have h2 := conv_rd w1 none A2 _ c2 _ hr
        intro Q K hK
        go_simp
        exact hK _ _ (gb_refl _ _) rfl
      case s11 =>
        intro a w1 hg hd
        have h0 := hd 0 (by kernel_rfl)
        refine ⟨wanted_guard (g := 3) (d := 6) rfl rfl (hd 6 (by kernel_rfl)), fun d e => ?_⟩
        cases e
        exact leaves_run rfl (gb_refl _ _) h0
      case s12 =>
        intro a w1 hg hd
        obtain ⟨h0, hr⟩ := hd 14 (by kernel_rfl)
        refine ⟨wanted_guard (g := 3) (d := 6) rfl rfl (hd 6 (by kernel_rfl)), fun d e => ?_⟩
        cases e
        have h1 := sl h0
        have h2 := conv_rd w1 none A (m + 4) c l hr
        intro Q K hK
        go_simp
        exact hK _ _ (gb_refl _ _) rfl
      case s13 =>
        intro a w1 hg hd
        have h0 := sl (hd 13 (by kernel_rfl))
        have h1 := sl (hd 15 (by kernel_rfl))
        refine ⟨wanted_guard (g := 3) (d := 6) rfl rfl (hd 6 (by kernel_rfl)), fun d e => ?_⟩
        cases e
        intro Q K hK
        go_simp
        exact hK _ _ (gb_refl _ _) (str_eq _ _)
      case s14 =>
        intro a w1 hg hd
        have h0 := sl (hd 6 (by kernel_rfl))
        have h1 := sl (hd 16 (by kernel_rfl))
        refine ⟨wanted_plain rfl, fun d e => ?_⟩
        cases e
        intro Q K hK
        go_simp
        exact hK _ _ (gb_refl _ _) rfl
      case s15 =>
        intro a w1 hg hd
        have h0 := hd 17 (by kernel_rfl)
        refine ⟨wanted_plain rfl, fun d e => ?_⟩
        cases e
        exact leaves_run rfl (gb_refl _ _) h0
    case fin =>
      intro a w1 hg hd hD
      have h2 : a.tmps.getD 2 undef = .bool (decide (Crc.put (l.take m) = l)) := hD 15 _ 2 rfl rfl
      have H2 := hide h2
      clear h2
      go_wp2
      refine bodyPost_ret (v := .bool (decide (Crc.put (l.take m) = l))) (by simp [results, Try.results17, sl H2.out]) hd ⟨ret_bool ?_, hg⟩
      unfold Crc.fits
      rw [R1.out.1]
      simp
  · have hf : Hid (Crc.fits l = false) := by
      show _ = _
      unfold Crc.fits
      rw [hr.1]
      simp [h4]
    clear hr
    have h4' : n < 4 := by omega
    have h4b : decide (4 ≤ (n : Int)) = false := by simp; omega
    go_enter Try.func17, Try.ntmps17
    go_wp2_with fail
    go_quiet (fail)
    go_wp2
    go_ret
    exact ⟨ret_bool hf.out.symm, gb_drewN (gb_refl _ _) _⟩
end Go.Proofs.Ytojlnbolfahmcaa
