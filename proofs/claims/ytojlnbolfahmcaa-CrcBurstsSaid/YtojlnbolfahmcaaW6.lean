/-
  The walk of corduroylaw05.CrcFits over its callees by their contracts.
  Conditions: lengths as the statements bound them.
-/
import Derived.Test.YtojlnbolfahmcaaSteps
namespace Go.Proofs.Ytojlnbolfahmcaa
open Go.RowKit

theorem IsRd.sl {A : Option Addr} {n c : Nat} {l : List UInt8} {v : Value} {w : World} (hc : n ≤ c) (h : IsRd A n c l v w) : IsSl n l v w := ⟨A, c, h.1, hc, h.2⟩

def D6 (A : Option Addr) (n c : Nat) (l : List UInt8) : List (Nat × (Value → World → Prop)) :=
  [(0, IsRd A n c l), (6, IsRd A n c l), (7, IsSl (n + 4) (Crc.put l)), (8, Is (.string ⟨(Crc.put l).toArray⟩)), (9, IsRd A n c l), (10, IsSl (n + 4) (Crc.put l)), (11, Is (.string ⟨(Crc.put l).toArray⟩)),
   (12, Is (.bool true)), (13, Is (.bool true)), (14, IsRd A n c l), (15, Is (.bool (Crc.fits l))), (16, IsRd A n c l), (17, Is (.bool (Crc.fits l))), (18, Is (.bool true)), (19, Is (.bool true)), (20, Is (.bool true)),
   (21, IsRd A n c l), (22, IsSl (n + 4) (Crc.put l)), (23, Is (.bool true)), (24, Is (.bool true)), (25, Is (.bool true)), (26, Is (.bool true)), (27, Is (.bool true)), (2, Is (.bool true))]

theorem put14 (A : Option Addr) (n c : Nat) (l : List UInt8) (w : World) (hn : n ≤ 1000000) (hr : Rd w none A n l) (hc : n ≤ c) :
    Calls Try.prog 14 #[.slice A n c] w fun e w' => ∃ v, e = .returned v ∧ w.grownBy w' none ∧ IsSl (n + 4) (Crc.put l) v w' := by
  refine (crcPut_any A n c l w hr hc hn).mono ?_
  rintro e w' ⟨A2, c2, rfl, hc2, hown, hg⟩
  exact ⟨_, rfl, hg, A2, c2, rfl, hc2, own_rd hown⟩
theorem put15 (A : Option Addr) (n c : Nat) (l : List UInt8) (w : World) (hn : n ≤ 1000000) (hr : Rd w none A n l) :
    Calls Try.prog 15 #[.slice A n c] w fun e w' => ∃ v, e = .returned v ∧ w.grownBy w' none ∧ IsSl (n + 4) (Crc.put l) v w' := by
  refine (refPut_any A n c l w hr hn).mono ?_
  rintro e w' ⟨A2, c2, rfl, hc2, hown, hg⟩
  exact ⟨_, rfl, hg, A2, c2, rfl, hc2, own_rd hown⟩
theorem fits16 (A : Option Addr) (n c : Nat) (l : List UInt8) (w : World) (b : Bool) (hb : Crc.fits l = b) (hn : n ≤ 1000000) (hr : Rd w none A n l) (hc : n ≤ c) :
    Calls Try.prog 16 #[.slice A n c] w fun e w' => ∃ v, e = .returned v ∧ w.grownBy w' none ∧ Is (.bool b) v w' := by
  refine (crcFits_any A n c l w hr hc hn).mono ?_
  rintro e w' ⟨rfl, hg⟩
  exact ⟨_, rfl, hg, by rw [hb]; rfl⟩
theorem fits17 (A : Option Addr) (n c : Nat) (l : List UInt8) (w : World) (hn : n ≤ 1000000) (hr : Rd w none A n l) (hc : n ≤ c) :
    Calls Try.prog 17 #[.slice A n c] w fun e w' => ∃ v, e = .returned v ∧ w.grownBy w' none ∧ Is (.bool (Crc.fits l)) v w' := by
  refine (refFits_any A n c l w hr hc hn).mono ?_
  rintro e w' ⟨rfl, hg⟩
  exact ⟨_, rfl, hg, rfl⟩

set_option maxHeartbeats 1000000 in
theorem walk6 (A : Option Addr) (n c : Nat) (l : List UInt8) (w : World) (hr : Rd w none A n l) (hc : n ≤ c) (hn : n ≤ maxLen) :
    Calls Try.prog 6 #[.slice A n c] w fun e w' => e = .returned (.bool true) ∧ Below w.heap.size w w' := by
  unfold maxLen at hn
  by_cases h4 : n ≤ 400
  · have R1 := hide hr
    clear hr
    go_enter Try.func6, Try.ntmps6
    go_wp2_with fail
    refine wp_region_inv (by kernel_rfl) (look (D6 A n c l)) [0] (look_mono _ ?mono) (by kernel_rfl) ?start ?steps ?fin
    case mono =>
      repeat (refine all_cons' ?_ ?_)
      all_goals first | exact all_nil | exact Is.mono _ | exact IsRd.mono _ _ _ _ | exact IsSl.mono _ _
    case start => exact all_cons ⟨rfl, R1.out⟩ all_nil
    case steps =>
      refine all_cons (step_move (s := 0) (d := 6) (wants_none rfl) rfl (.inl rfl) (by kernel_rfl) fun _ _ h => h) ?_
      refine all_cons (step_call1 (s := 6) (d := 7) (f := 14) (n := n) (l := l) (wants_none rfl) rfl rfl (by kernel_rfl) (fun _ _ h => IsRd.sl hc h) enter14 fun A' c' w' hr' hc' => put14 A' n c' l w' (by omega) hr' hc') ?_
      refine all_cons (step_conv (s := 7) (d := 8) (n := n + 4) (l := Crc.put l) (wants_none rfl) rfl rfl (by kernel_rfl) (fun _ _ h => h) fun _ => rfl) ?_
      refine all_cons (step_move (s := 0) (d := 9) (wants_none rfl) rfl (.inl rfl) (by kernel_rfl) fun _ _ h => h) ?_
      refine all_cons (step_call1 (s := 9) (d := 10) (f := 15) (n := n) (l := l) (wants_none rfl) rfl rfl (by kernel_rfl) (fun _ _ h => IsRd.sl hc h) enter15 fun A' c' w' hr' _ => put15 A' n c' l w' (by omega) hr') ?_
      refine all_cons (step_conv (s := 10) (d := 11) (n := n + 4) (l := Crc.put l) (wants_none rfl) rfl rfl (by kernel_rfl) (fun _ _ h => h) fun _ => rfl) ?_
      refine all_cons (step_eqstr (s := 8) (t := 11) (d := 12) (l := Crc.put l) (m := Crc.put l) (wants_none rfl) rfl rfl (by kernel_rfl) (by kernel_rfl) (fun _ _ h => h) (fun _ _ h => h) fun _ => congrArg Value.bool (decide_eq_true rfl)) ?_
      refine all_cons (step_move (s := 12) (d := 13) (wants_none rfl) rfl (.inl rfl) (by kernel_rfl) fun _ _ h => h) ?_
      refine all_cons (step_move (s := 0) (d := 14) (wants_bool (g := 7) (d := 13) rfl rfl (by kernel_rfl) fun _ _ h => h) rfl (.inl rfl) (by kernel_rfl) fun _ _ h => h) ?_
      refine all_cons (step_call1 (s := 14) (d := 15) (f := 16) (n := n) (l := l) (wants_bool (g := 7) (d := 13) rfl rfl (by kernel_rfl) fun _ _ h => h) rfl rfl (by kernel_rfl) (fun _ _ h => IsRd.sl hc h) enter16 fun A' c' w' hr' hc' => fits16 A' n c' l w' _ rfl (by omega) hr' hc') ?_
      refine all_cons (step_move (s := 0) (d := 16) (wants_bool (g := 7) (d := 13) rfl rfl (by kernel_rfl) fun _ _ h => h) rfl (.inl rfl) (by kernel_rfl) fun _ _ h => h) ?_
      refine all_cons (step_call1 (s := 16) (d := 17) (f := 17) (n := n) (l := l) (wants_bool (g := 7) (d := 13) rfl rfl (by kernel_rfl) fun _ _ h => h) rfl rfl (by kernel_rfl) (fun _ _ h => IsRd.sl hc h) enter17 fun A' c' w' hr' hc' => fits17 A' n c' l w' (by omega) hr' hc') ?_
      refine all_cons (step_eqbool (s := 15) (t := 17) (d := 18) (x := Crc.fits l) (y := Crc.fits l) (wants_bool (g := 7) (d := 13) rfl rfl (by kernel_rfl) fun _ _ h => h) rfl rfl (by kernel_rfl) (by kernel_rfl) rfl (fun _ _ h => h) (fun _ _ h => h) fun _ => rfl) ?_
      refine all_cons (step_pick (s := 13) (t := 18) (d := 19) (wants_none rfl) rfl rfl (by kernel_rfl) (by kernel_rfl) (fun _ _ h => h) (fun _ _ h => h) fun _ => rfl) ?_
      refine all_cons (step_move (s := 19) (d := 20) (wants_none rfl) rfl (.inl rfl) (by kernel_rfl) fun _ _ h => h) ?_
      refine all_cons (step_move (s := 0) (d := 21) (wants_bool (g := 14) (d := 20) rfl rfl (by kernel_rfl) fun _ _ h => h) rfl (.inl rfl) (by kernel_rfl) fun _ _ h => h) ?_
      refine all_cons (step_call1 (s := 21) (d := 22) (f := 14) (n := n) (l := l) (wants_bool (g := 14) (d := 20) rfl rfl (by kernel_rfl) fun _ _ h => h) rfl rfl (by kernel_rfl) (fun _ _ h => IsRd.sl hc h) enter14 fun A' c' w' hr' hc' => put14 A' n c' l w' (by omega) hr' hc') ?_
      refine all_cons (step_call1 (s := 22) (d := 23) (f := 16) (n := n + 4) (l := Crc.put l) (wants_bool (g := 14) (d := 20) rfl rfl (by kernel_rfl) fun _ _ h => h) rfl rfl (by kernel_rfl) (fun _ _ h => h) enter16 fun A' c' w' hr' hc' => fits16 A' (n + 4) c' (Crc.put l) w' true (Crc.fits_put l) (by omega) hr' hc') ?_
      refine all_cons (step_pick (s := 20) (t := 23) (d := 24) (wants_none rfl) rfl rfl (by kernel_rfl) (by kernel_rfl) (fun _ _ h => h) (fun _ _ h => h) fun _ => rfl) ?_
      refine all_cons (step_move (s := 24) (d := 25) (wants_none rfl) rfl (.inl rfl) (by kernel_rfl) fun _ _ h => h) ?_
      refine all_cons (step_awake (d := 26) (wants_bool (g := 19) (d := 25) rfl rfl (by kernel_rfl) fun _ _ h => h) rfl rfl fun _ => rfl) ?_
      refine all_cons (step_pick (s := 25) (t := 26) (d := 27) (wants_none rfl) rfl rfl (by kernel_rfl) (by kernel_rfl) (fun _ _ h => h) (fun _ _ h => h) fun _ => rfl) ?_
      refine all_cons (step_move (s := 27) (d := 2) (wants_none rfl) rfl (.inr rfl) (by kernel_rfl) fun _ _ h => h) all_nil
    case fin =>
      intro a w1 hg hd hD
      have h2 : a.tmps.getD 2 undef = .bool true := hD 22 _ 2 rfl rfl
      have H2 := hide h2
      clear h2
      go_wp2
      exact bodyPost_ret (v := .bool true) (by simp [results, Try.results6, sl H2.out]) hd ⟨rfl, gb_below hg⟩
  · have h4' : 400 < n := by omega
    clear hr
    go_enter Try.func6, Try.ntmps6
    go_wp2_with fail
    go_ret
    exact ⟨rfl, Below.refl _ _⟩
end Go.Proofs.Ytojlnbolfahmcaa
