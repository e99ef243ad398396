/-
  The operations of the statements' last regions, one lemma a kind: what each leaves in its slot, in whatever later world it is begun.
  Conditions: what is known of the slots that the operation reads.
-/
import Derived.Test.YtojlnbolfahmcaaWf
import Derived.Test.YtojlnbolfahmcaaWg
namespace Go.Proofs.Ytojlnbolfahmcaa
open Go.RowKit

section
variable {ops : Array Oper} {D : Nat → Value → World → Prop} {w0 : World} {o : Oper}

/-- The operation is wanted: it has no guard, or its guard's slot says yes. -/
def WantsOk (ops : Array Oper) (D : Nat → Value → World → Prop) (o : Oper) : Prop :=
  ∀ (a : Act) (w : World), (∀ t, (o.looksAt ops).contains t = true → D t (a.eval (.tmp t)) w) → Region.wanted o (yielded ops a.tmps) = true
theorem wants_none (h : o.guard = none) : WantsOk ops D o := fun _ _ _ => wanted_plain h
theorem wants_bool {g d : Nat} {b : Bool} (h : o.guard = some (g, b)) (hd : (ops[g]?).bind (·.dst) = some d) (hc : (o.looksAt ops).contains d = true) (hD : ∀ v w, D d v w → v = .bool b) : WantsOk ops D o :=
  fun _ w hl => wanted_guard h hd (hD _ w (hl d hc))

theorem step_move {s d : Nat} (hw : WantsOk ops D o) (hd : o.dst = some d) (hop : o.op = .move (.tmp s) ∨ o.op = .assign (.tmp s)) (hs : (o.looksAt ops).contains s = true) (h : ∀ v w, D s v w → D d v w) :
    StepOk Try.prog ops D w0 o := by
  intro a w _ hl
  refine ⟨hw a w hl, fun d' e => ?_⟩
  rw [hd] at e
  cases e
  refine leaves_run (v := a.eval (.tmp s)) ?_ (gb_refl _ _) (h _ _ (hl s hs))
  rcases hop with hop | hop <;> (unfold execOp; rw [hop]; rfl)

theorem step_len {s d : Nat} {n : Nat} (hw : WantsOk ops D o) (hd : o.dst = some d) (hop : o.op = .call { callee := .builtin .len, args := #[.tmp s], argTypes := #[25] }) (hs : (o.looksAt ops).contains s = true)
    (h : ∀ v w, D s v w → ∃ A c, v = .slice A n c) (hD : ∀ w, D d (.int .i64 (n : Int)) w) : StepOk Try.prog ops D w0 o := by
  intro a w _ hl
  refine ⟨hw a w hl, fun d' e => ?_⟩
  rw [hd] at e
  cases e
  obtain ⟨A, c, h0⟩ := h _ _ (hl s hs)
  have h1 := sl h0
  obtain ⟨dst, op, ty, pos, aft, grd⟩ := o
  simp only at hop
  subst hop
  intro Q K hK
  go_simp
  exact hK _ _ (gb_refl _ _) (hD w)

theorem step_part {s d n : Nat} {l : List UInt8} (hw : WantsOk ops D o) (hd : o.dst = some d) (hop : o.op = .buildSlice 22 1 #[(0, .tmp s)]) (hs : (o.looksAt ops).contains s = true)
    (h : ∀ v w, D s v w → IsSl n l v w) (hD : ∀ v w, IsPart l v w → D d v w) : StepOk Try.prog ops D w0 o := by
  intro a w _ hl
  refine ⟨hw a w hl, fun d' e => ?_⟩
  rw [hd] at e
  cases e
  obtain ⟨A, c, h0, hc, hr⟩ := h _ _ (hl s hs)
  have h1 := sl h0
  obtain ⟨dst, op, ty, pos, aft, grd⟩ := o
  simp only at hop
  subst hop
  intro Q K hK
  go_simp
  exact hK _ _ (gb_alloc (gb_refl _ _) _) (hD _ _ ⟨_, rfl, rds_one w hr hc⟩)

theorem step_sum {s d : Nat} {l : List UInt8} (hw : WantsOk ops D o) (hd : o.dst = some d) (hop : o.op = .call { callee := .value (.func 12), args := #[.tmp s], argTypes := #[22] }) (hs : (o.looksAt ops).contains s = true)
    (hn : l.length ≤ 1000000) (h : ∀ v w, D s v w → IsPart l v w) (hD : ∀ w, D d (.int .u32 (Crc.sum l : Int)) w) : StepOk Try.prog ops D w0 o := by
  intro a w _ hl
  refine ⟨hw a w hl, fun d' e => ?_⟩
  rw [hd] at e
  cases e
  obtain ⟨A, h0, hr⟩ := h _ _ (hl s hs)
  have h1 := sl h0
  refine leaves_call (f := 12) (args := #[.slice A 1 1]) ?_ ?_
  · unfold execOp
    rw [hop]
    go_simp
  · refine (sum_any A 1 1 [l] w hr (by omega) (by simp; exact hn)).mono ?_
    rintro e w' ⟨rfl, hg⟩
    exact ⟨_, rfl, hg, by simpa using hD w'⟩

theorem step_awake {d : Nat} (hw : WantsOk ops D o) (hd : o.dst = some d) (hop : o.op = .call { callee := .value (.func 13), args := #[], argTypes := #[] }) (hD : ∀ w, D d (.bool true) w) : StepOk Try.prog ops D w0 o := by
  intro a w _ hl
  refine ⟨hw a w hl, fun d' e => ?_⟩
  rw [hd] at e
  cases e
  refine leaves_call (f := 13) (args := #[]) ?_ ?_
  · unfold execOp
    rw [hop]
    go_simp
  · refine (awake_any w).mono ?_
    rintro e w' ⟨rfl, hg⟩
    exact ⟨_, rfl, hg, hD w'⟩

theorem step_front {s t d m n c : Nat} {A : Option Addr} {l : List UInt8} (hw : WantsOk ops D o) (hd : o.dst = some d) (hop : o.op = .slice 25 (.tmp s) .none (some (.tmp t)) .none) (hs : (o.looksAt ops).contains s = true) (ht : (o.looksAt ops).contains t = true)
    (hmn : m ≤ n) (hnc : n ≤ c) (h : ∀ v w, D s v w → IsRd A n c l v w) (h' : ∀ v w, D t v w → v = .int .i64 (m : Int)) (hD : ∀ v w, IsRd A m c (l.take m) v w → D d v w) : StepOk Try.prog ops D w0 o := by
  intro a w _ hl
  refine ⟨hw a w hl, fun d' e => ?_⟩
  rw [hd] at e
  cases e
  obtain ⟨h0, hr⟩ := h _ _ (hl s hs)
  have h1 := sl h0
  have h2 := sl (h' _ _ (hl t ht))
  have hmc : m ≤ c := by omega
  obtain ⟨dst, op, ty, pos, aft, grd⟩ := o
  simp only at hop
  subst hop
  intro Q K hK
  go_simp
  exact hK _ _ (gb_refl _ _) (hD _ _ ⟨rfl, hr.take hmn⟩)

theorem step_xor {s t d x y : Nat} (hw : WantsOk ops D o) (hd : o.dst = some d) (hop : o.op = .binOp .xor 27 (.tmp s) (.tmp t) 27) (hs : (o.looksAt ops).contains s = true) (ht : (o.looksAt ops).contains t = true)
    (hx : x < 4294967296) (hy : y < 4294967296) (h : ∀ v w, D s v w → v = .int .u32 (x : Int)) (h' : ∀ v w, D t v w → v = .int .u32 (y : Int)) (hD : ∀ w, D d (.int .u32 ((x ^^^ y : Nat) : Int)) w) : StepOk Try.prog ops D w0 o := by
  intro a w _ hl
  refine ⟨hw a w hl, fun d' e => ?_⟩
  rw [hd] at e
  cases e
  have h1 := sl (h _ _ (hl s hs))
  have h2 := sl (h' _ _ (hl t ht))
  have hb := u32_xor_nat x y hx hy
  obtain ⟨dst, op, ty, pos, aft, grd⟩ := o
  simp only at hop
  subst hop
  intro Q K hK
  go_simp
  exact hK _ _ (gb_refl _ _) (hD w)

theorem step_eq32 {s t d x y : Nat} (hw : WantsOk ops D o) (hd : o.dst = some d) (hop : o.op = .binOp .eql 27 (.tmp s) (.tmp t) 27) (hs : (o.looksAt ops).contains s = true) (ht : (o.looksAt ops).contains t = true)
    (hxy : x = y) (h : ∀ v w, D s v w → v = .int .u32 (x : Int)) (h' : ∀ v w, D t v w → v = .int .u32 (y : Int)) (hD : ∀ w, D d (.bool true) w) : StepOk Try.prog ops D w0 o := by
  subst hxy
  intro a w _ hl
  refine ⟨hw a w hl, fun d' e => ?_⟩
  rw [hd] at e
  cases e
  have h1 := sl (h _ _ (hl s hs))
  have h2 := sl (h' _ _ (hl t ht))
  obtain ⟨dst, op, ty, pos, aft, grd⟩ := o
  simp only at hop
  subst hop
  intro Q K hK
  go_simp
  exact hK _ _ (gb_refl _ _) (hD w)

theorem step_pick {s t d : Nat} (hw : WantsOk ops D o) (hd : o.dst = some d) (hop : o.op = .pick (.tmp s) (.tmp t) (.const (.bool false))) (hs : (o.looksAt ops).contains s = true) (ht : (o.looksAt ops).contains t = true)
    (h : ∀ v w, D s v w → v = .bool true) (h' : ∀ v w, D t v w → v = .bool true) (hD : ∀ w, D d (.bool true) w) : StepOk Try.prog ops D w0 o := by
  intro a w _ hl
  refine ⟨hw a w hl, fun d' e => ?_⟩
  rw [hd] at e
  cases e
  have h1 := sl (h _ _ (hl s hs))
  have h2 := sl (h' _ _ (hl t ht))
  obtain ⟨dst, op, ty, pos, aft, grd⟩ := o
  simp only at hop
  subst hop
  intro Q K hK
  go_simp
  exact hK _ _ (gb_refl _ _) (hD w)

theorem step_conv {s d n : Nat} {l : List UInt8} (hw : WantsOk ops D o) (hd : o.dst = some d) (hop : o.op = .convert 25 9 (.tmp s)) (hs : (o.looksAt ops).contains s = true)
    (h : ∀ v w, D s v w → IsSl n l v w) (hD : ∀ w, D d (.string ⟨l.toArray⟩) w) : StepOk Try.prog ops D w0 o := by
  intro a w _ hl
  refine ⟨hw a w hl, fun d' e => ?_⟩
  rw [hd] at e
  cases e
  obtain ⟨A, c, h0, hc, hr⟩ := h _ _ (hl s hs)
  have h1 := sl h0
  have h2 := conv_rd w none A n c l hr
  obtain ⟨dst, op, ty, pos, aft, grd⟩ := o
  simp only at hop
  subst hop
  intro Q K hK
  go_simp
  exact hK _ _ (gb_refl _ _) (hD w)

theorem step_eqstr {s t d : Nat} {l m : List UInt8} (hw : WantsOk ops D o) (hd : o.dst = some d) (hop : o.op = .binOp .eql 9 (.tmp s) (.tmp t) 9) (hs : (o.looksAt ops).contains s = true) (ht : (o.looksAt ops).contains t = true)
    (h : ∀ v w, D s v w → v = .string ⟨l.toArray⟩) (h' : ∀ v w, D t v w → v = .string ⟨m.toArray⟩) (hD : ∀ w, D d (.bool (decide (l = m))) w) : StepOk Try.prog ops D w0 o := by
  intro a w _ hl
  refine ⟨hw a w hl, fun d' e => ?_⟩
  rw [hd] at e
  cases e
  have h1 := sl (h _ _ (hl s hs))
  have h2 := sl (h' _ _ (hl t ht))
  obtain ⟨dst, op, ty, pos, aft, grd⟩ := o
  simp only at hop
  subst hop
  intro Q K hK
  go_simp
  exact hK _ _ (gb_refl _ _) (by rw [str_eq]; exact hD w)

theorem step_eqbool {s t d : Nat} {x y : Bool} (hw : WantsOk ops D o) (hd : o.dst = some d) (hop : o.op = .binOp .eql 4 (.tmp s) (.tmp t) 4) (hs : (o.looksAt ops).contains s = true) (ht : (o.looksAt ops).contains t = true)
    (hxy : x = y) (h : ∀ v w, D s v w → v = .bool x) (h' : ∀ v w, D t v w → v = .bool y) (hD : ∀ w, D d (.bool true) w) : StepOk Try.prog ops D w0 o := by
  subst hxy
  intro a w _ hl
  refine ⟨hw a w hl, fun d' e => ?_⟩
  rw [hd] at e
  cases e
  have h1 := sl (h _ _ (hl s hs))
  have h2 := sl (h' _ _ (hl t ht))
  obtain ⟨dst, op, ty, pos, aft, grd⟩ := o
  simp only at hop
  subst hop
  intro Q K hK
  go_simp
  exact hK _ _ (gb_refl _ _) (hD w)

/-- A call with one slice of bytes. -/
theorem step_call1 {s d f n : Nat} {l : List UInt8} (hw : WantsOk ops D o) (hd : o.dst = some d) (hop : o.op = .call { callee := .value (.func f), args := #[.tmp s], argTypes := #[25] }) (hs : (o.looksAt ops).contains s = true)
    (h : ∀ v w, D s v w → IsSl n l v w) (hf : ∀ (x : Value) (w : World), (callFunc f #[x]).run Try.prog w = .ok (.enter f #[x]) w)
    (hc : ∀ A c w, Rd w none A n l → n ≤ c → Calls Try.prog f #[.slice A n c] w fun e w' => ∃ v, e = .returned v ∧ w.grownBy w' none ∧ D d v w') : StepOk Try.prog ops D w0 o := by
  intro a w _ hl
  refine ⟨hw a w hl, fun d' e => ?_⟩
  rw [hd] at e
  cases e
  obtain ⟨A, c, h0, hnc, hr⟩ := h _ _ (hl s hs)
  have h1 := sl h0
  refine leaves_call (f := f) (args := #[.slice A n c]) ?_ (hc A c w hr hnc)
  have h2 := hf (.slice A n c) w
  clear hf
  unfold execOp
  rw [hop]
  go_simp
theorem enter14 (x : Value) (w : World) : (callFunc 14 #[x]).run Try.prog w = .ok (.enter 14 #[x]) w := by go_simp
theorem enter15 (x : Value) (w : World) : (callFunc 15 #[x]).run Try.prog w = .ok (.enter 15 #[x]) w := by go_simp
theorem enter16 (x : Value) (w : World) : (callFunc 16 #[x]).run Try.prog w = .ok (.enter 16 #[x]) w := by go_simp
theorem enter17 (x : Value) (w : World) : (callFunc 17 #[x]).run Try.prog w = .ok (.enter 17 #[x]) w := by go_simp
end
end Go.Proofs.Ytojlnbolfahmcaa
