/-
  A region that draws its order of evaluation and whose operations make new memory alone: what is known of each slot, shown once an operation, holds behind the region in whatever order.
  Conditions: each operation, begun in any later world, finishes and leaves what is said of its slot; the Bool 'invB' over the region.
-/
import Derived.Test.YtojlnbolfahmcaaBase
namespace Go.Proofs.Ytojlnbolfahmcaa
open Go.RowKit

/-- The operation finishes, makes new memory alone, and leaves a value of which this holds. -/
def Leaves (P : Program) (o : Oper) (a : Act) (w : World) (Φ : Value → World → Prop) : Prop :=
  ∀ (Q : Exit → Act → World → Prop) (K : Act → World → Prop), (∀ v w', w.grownBy w' none → Φ v w' → K (a.put o.dst v) w') → o.wp P a w K Q

theorem leaves_run {P : Program} {o : Oper} {a : Act} {w w' : World} {Φ : Value → World → Prop} {v : Value} (h : (execOp a.eval o).run P w = .ok (.value v) w') (hg : w.grownBy w' none) (hv : Φ v w') : Leaves P o a w Φ := by
  intro Q K hK
  unfold Oper.wp
  rw [h]
  exact hK v w' hg hv

theorem leaves_call {P : Program} {o : Oper} {a : Act} {w : World} {Φ : Value → World → Prop} {f : FuncId} {args : Array Value} (h : (execOp a.eval o).run P w = .ok (.enter f args) w)
    (hc : Calls P f args w fun e w' => ∃ v, e = .returned v ∧ w.grownBy w' none ∧ Φ v w') : Leaves P o a w Φ := by
  intro Q K hK
  unfold Oper.wp
  rw [h]
  refine Calls.mono hc fun e w' he => ?_
  obtain ⟨v, rfl, hg, hv⟩ := he
  exact hK v w' hg hv

def invB (n : Nat) (ins : List Nat) (ops : Array Oper) : Bool :=
  (ins.all fun t => ops.all fun p => p.dst != some t) &&
  (List.range ops.size).all fun i => match ops[i]? with
    | none => true
    | some o =>
      (match o.dst with
       | none => false
       | some d => decide (d < n) && (List.range ops.size).all fun j => j == i || (match ops[j]? with | some p => p.dst != some d | none => true)) &&
      o.after.all (fun e => decide (e.on < i)) &&
      (o.looksAt ops).all fun t => ins.contains t || o.after.any fun e => Region.binds .any e && (match ops[e.on]? with | some p => p.dst == some t | none => false)

theorem invB_ins {n : Nat} {ins : List Nat} {ops : Array Oper} (h : invB n ins ops = true) {t : Nat} (ht : t ∈ ins) {i : Nat} {o : Oper} (ho : ops[i]? = some o) : o.dst ≠ some t := by
  simp only [invB, Bool.and_eq_true, List.all_eq_true] at h
  have h1 := h.1 t ht
  have h2 := Array.all_eq_true_iff_forall_mem.1 h1 o (Array.mem_of_getElem? ho)
  simpa using h2

theorem invB_at {n : Nat} {ins : List Nat} {ops : Array Oper} (h : invB n ins ops = true) {i : Nat} {o : Oper} (ho : ops[i]? = some o) :
    ∃ d, o.dst = some d ∧ d < n ∧ (∀ (j : Nat) (p : Oper), ops[j]? = some p → j ≠ i → p.dst ≠ some d) ∧ (∀ e ∈ o.after, e.on < i) ∧
      ∀ t ∈ o.looksAt ops, t ∈ ins ∨ ∃ e ∈ o.after, Region.binds .any e = true ∧ ∃ p, ops[e.on]? = some p ∧ p.dst = some t := by
  simp only [invB, Bool.and_eq_true, List.all_eq_true, List.mem_range] at h
  have hi : i < ops.size := (Array.getElem?_eq_some_iff.1 ho).1
  have h1 := h.2 i hi
  simp only [ho, Bool.and_eq_true] at h1
  obtain ⟨⟨h2, h3⟩, h4⟩ := h1
  cases hd : o.dst with
  | none => simp [hd] at h2
  | some d =>
    simp only [hd, Bool.and_eq_true, decide_eq_true_eq, List.all_eq_true, List.mem_range] at h2
    refine ⟨d, rfl, h2.1, ?_, ?_, ?_⟩
    · intro j p hp hji
      have hj : j < ops.size := (Array.getElem?_eq_some_iff.1 hp).1
      have h5 := h2.2 j hj
      simp only [hp, Bool.or_eq_true, beq_iff_eq] at h5
      rcases h5 with h5 | h5
      · exact absurd h5 hji
      · simpa using h5
    · intro e he
      exact of_decide_eq_true (Array.all_eq_true_iff_forall_mem.1 h3 e he)
    · intro t ht
      have h6 := List.all_eq_true.1 h4 t ht
      simp only [Bool.or_eq_true] at h6
      rcases h6 with h6 | h6
      · exact .inl (by simpa using h6)
      · obtain ⟨e, he, h7⟩ := Array.any_eq_true'.1 h6
        simp only [Bool.and_eq_true] at h7
        refine .inr ⟨e, he, h7.1, ?_⟩
        have h8 := h7.2
        cases hp : ops[e.on]? with
        | none => simp [hp] at h8
        | some p => simp only [hp, beq_iff_eq] at h8; exact ⟨p, rfl, h8⟩

def StepOk (P : Program) (ops : Array Oper) (D : Nat → Value → World → Prop) (w0 : World) (o : Oper) : Prop :=
  ∀ (a : Act) (w : World), w0.grownBy w none → (∀ t, (o.looksAt ops).contains t = true → D t (a.eval (.tmp t)) w) →
    Region.wanted o (yielded ops a.tmps) = true ∧ ∀ d, o.dst = some d → Leaves P o a w (D d)

structure RInv (ops : Array Oper) (ins : List Nat) (D : Nat → Value → World → Prop) (w0 : World) (a0 : Act) (listed : Array Bool) (a : Act) (w : World) : Prop where
  size : listed.size = ops.size
  grown : w0.grownBy w none
  defers : a.defers = a0.defers
  tsize : a.tmps.size = a0.tmps.size
  done : ∀ (i : Nat) (o : Oper) (d : Nat), ops[i]? = some o → o.dst = some d → listed.getD i false = true → D d (a.tmps.getD d undef) w
  input : ∀ t ∈ ins, D t (a.tmps.getD t undef) w

/-- How many have not come up yet. -/
def unl (n : Nat) (listed : Array Bool) : Nat := ((List.range n).filter fun i => !listed.getD i true).length

theorem filter_lt {p q : Nat → Bool} {i : Nat} : ∀ (l : List Nat), i ∈ l → (∀ j, q j = true → p j = true) → p i = true → q i = false → (l.filter q).length < (l.filter p).length := by
  intro l
  induction l with
  | nil => intro h; cases h
  | cons x l ih =>
    intro hi hpq hp hq
    have hle : ∀ l : List Nat, (l.filter q).length ≤ (l.filter p).length := by
      intro l
      induction l with
      | nil => simp
      | cons y l ih2 =>
        simp only [List.filter_cons]
        by_cases hy : q y = true
        · rw [if_pos hy, if_pos (hpq y hy)]; simp; exact ih2
        · rw [if_neg hy]
          split
          · simp; omega
          · exact ih2
    rcases List.mem_cons.1 hi with rfl | hi
    · simp only [List.filter_cons, hp, hq, if_true]
      have := hle l
      simp
      omega
    · have h1 := ih hi hpq hp hq
      simp only [List.filter_cons]
      by_cases hx : q x = true
      · rw [if_pos hx, if_pos (hpq x hx)]; simp; exact h1
      · rw [if_neg hx]
        split
        · simp; omega
        · exact h1

theorem unl_lt {n i : Nat} {listed : Array Bool} (hs : listed.size = n) (hi : i < n) (h : listed.getD i true = false) : unl n (listed.setIfInBounds i true) < unl n listed := by
  unfold unl
  refine filter_lt (i := i) _ (List.mem_range.2 hi) ?_ (by rw [h]; rfl) ?_
  · intro j hj
    by_cases hji : i = j
    · subst hji
      simp [hs, hi] at hj
    · rw [getD_set_ne true hji] at hj
      exact hj
  · simp [hs, hi]

theorem getD_lt {a : Array Bool} {i : Nat} (h : i < a.size) (d e : Bool) : a.getD i d = a.getD i e := by
  simp [h]

theorem wpAny_inv {P : Program} {ops : Array Oper} {Q : Exit → Act → World → Prop} {a0 : Act} {w0 : World} (D : Nat → Value → World → Prop) (ins : List Nat)
    (mono : ∀ t v w w', D t v w → w.grownBy w' none → D t v w') (hB : invB a0.tmps.size ins ops = true) (steps : ∀ o ∈ ops.toList, StepOk P ops D w0 o)
    (fin : ∀ a w, w0.grownBy w none → a.defers = a0.defers → (∀ (i : Nat) (o : Oper) (d : Nat), ops[i]? = some o → o.dst = some d → D d (a.tmps.getD d undef) w) → Q .normal a w) :
    ∀ (fuel : Nat) (listed : Array Bool) (a : Act) (w : World), unl ops.size listed ≤ fuel → RInv ops ins D w0 a0 listed a w → wpAny P .any ops Q fuel listed a w := by
  have last : ∀ (listed : Array Bool) (a : Act) (w : World), RInv ops ins D w0 a0 listed a w → Region.ready .any ops listed = [] → Q .normal a w := by
    intro listed a w hI hr
    have hall : ∀ i, i < ops.size → listed.getD i false = true := by
      intro i
      induction i using Nat.strongRecOn with
      | ind i ih =>
        intro hi
        by_cases hl : listed.getD i false = true
        · exact hl
        · exfalso
          obtain ⟨o, ho⟩ : ∃ o, ops[i]? = some o := ⟨_, Array.getElem?_eq_getElem hi⟩
          obtain ⟨d, _, _, _, haft, _⟩ := invB_at hB ho
          have hmem : i ∈ Region.ready .any ops listed := by
            rw [mem_ready]
            refine ⟨?_, o, ho, fun e he _ => ih e.on (haft e he) (Nat.lt_trans (haft e he) hi)⟩
            rw [getD_lt (by rw [hI.size]; exact hi) true false]
            simpa using hl
          rw [hr] at hmem
          cases hmem
    exact fin a w hI.grown hI.defers fun i o d ho hd => hI.done i o d ho hd (hall i (Array.getElem?_eq_some_iff.1 ho).1)
  intro fuel
  induction fuel with
  | zero =>
    intro listed a w hu hI
    have hr : Region.ready .any ops listed = [] := by
      rw [List.eq_nil_iff_forall_not_mem]
      intro i hi
      obtain ⟨h0, o, ho, _⟩ := mem_ready.1 hi
      have := unl_lt hI.size (Array.getElem?_eq_some_iff.1 ho).1 h0
      omega
    exact ⟨hr, last listed a w hI hr⟩
  | succ fuel ih =>
    intro listed a w hu hI
    refine ⟨last listed a w hI, fun i hi => ?_⟩
    obtain ⟨h0, o, ho, hdeps⟩ := mem_ready.1 hi
    have hlt := (Array.getElem?_eq_some_iff.1 ho).1
    obtain ⟨d, hd, hdn, huniq, _, hlook⟩ := invB_at hB ho
    obtain ⟨hw, hl⟩ := steps o (Array.mem_toList_iff.2 (Array.mem_of_getElem? ho)) a w hI.grown (fun t ht => by
      rcases hlook t (by simpa using ht) with h1 | ⟨e, he, hb, p, hp, hpd⟩
      · exact hI.input t h1
      · exact hI.done e.on p t hp hpd (hdeps e he hb))
    unfold wpOp
    simp only [ho, hw, if_true]
    refine .inl (hl d hd Q _ fun v w' hg hv => ih _ _ _ (by have := unl_lt hI.size hlt h0; omega) ?_)
    have hput : ∀ t, (a.put o.dst v).tmps.getD t undef = if t = d then v else a.tmps.getD t undef := by
      intro t
      rw [hd]
      simp only [Act.put]
      by_cases htd : t = d
      · subst htd
        rw [if_pos rfl]
        have : t < a.tmps.size := by rw [hI.tsize]; exact hdn
        simp [this]
      · rw [if_neg htd]
        simp [Array.getElem?_setIfInBounds_ne (Ne.symm htd)]
    refine ⟨by simp [hI.size], gb_trans hI.grown hg, ?_, ?_, ?_, ?_⟩
    · rw [← hI.defers, hd]; rfl
    · rw [← hI.tsize, hd]; simp [Act.put]
    · intro j p dj hp hdj hlj
      rw [hput]
      by_cases hji : j = i
      · subst hji
        rw [ho] at hp
        injection hp with hp
        subst hp
        rw [hd] at hdj
        injection hdj with hdj
        subst hdj
        rw [if_pos rfl]
        exact hv
      · have hne : dj ≠ d := fun e => huniq j p hp hji (by rw [hdj, e])
        rw [if_neg hne]
        refine mono _ _ _ _ (hI.done j p dj hp hdj ?_) hg
        rw [getD_set_ne false (Ne.symm hji)] at hlj
        exact hlj
    · intro t ht
      rw [hput, if_neg (fun e => invB_ins hB ht ho (by rw [hd, e]))]
      exact mono _ _ _ _ (hI.input t ht) hg

theorem unl_start (n : Nat) : unl n (Array.replicate n false) ≤ n := by
  unfold unl
  exact Nat.le_trans (List.length_filter_le _ _) (by simp)

/-- THE LAW. -/
theorem wp_region_inv {P : Program} {id : Nat} {ops : Array Oper} {Q : Exit → Act → World → Prop} {a0 : Act} {w0 : World} (hm : P.follows .mixedOrders = true) (D : Nat → Value → World → Prop) (ins : List Nat)
    (mono : ∀ t v w w', D t v w → w.grownBy w' none → D t v w') (hB : invB a0.tmps.size ins ops = true) (start : ∀ t ∈ ins, D t (a0.tmps.getD t undef) w0) (steps : ∀ o ∈ ops.toList, StepOk P ops D w0 o)
    (fin : ∀ a w, w0.grownBy w none → a.defers = a0.defers → (∀ (i : Nat) (o : Oper) (d : Nat), ops[i]? = some o → o.dst = some d → D d (a.tmps.getD d undef) w) → Q .normal a w) :
    (Code.region id ops true).wp P Q a0 w0 := by
  refine wp_region_any hm (wpAny_inv D ins mono hB steps fin _ _ _ _ (unl_start _) ?_)
  have hg : w0.grownBy { w0 with drawn := w0.drawn + 1 } none := ⟨rfl, rfl, rfl, Nat.le_refl _, fun _ _ _ => rfl⟩
  refine ⟨by simp, hg, rfl, rfl, ?_, fun t ht => mono _ _ _ _ (start t ht) hg⟩
  intro i o d ho _ hl
  have hi := (Array.getElem?_eq_some_iff.1 ho).1
  simp [hi] at hl

theorem wanted_plain {ops : Array Oper} {o : Oper} {tmps : Array Value} (h : o.guard = none) : Region.wanted o (yielded ops tmps) = true := by
  unfold Region.wanted
  rw [h]
theorem wanted_guard {ops : Array Oper} {o : Oper} {a : Act} {g d : Nat} {b : Bool} (h : o.guard = some (g, b)) (hd : (ops[g]?).bind (·.dst) = some d) (hv : a.eval (.tmp d) = .bool b) : Region.wanted o (yielded ops a.tmps) = true := by
  unfold Region.wanted
  rw [h]
  have h1 : a.tmps[d]? = some (.bool b) := by
    simp only [Act.eval] at hv
    rcases Nat.lt_or_ge d a.tmps.size with h' | h'
    · rw [Array.getElem?_eq_getElem h']
      simpa [h'] using hv
    · simp [Array.getElem?_eq_none h', undef] at hv
  simp [yielded, hd, h1]
end Go.Proofs.Ytojlnbolfahmcaa
