/-
  The words of memory for the walks of the CRC statements: a block known whole, a slice of bytes that reads as a list, a slice of such slices, and what keeps them.
  Conditions: none; general lemmas on worlds.
-/
import Derived.Test.YtojlnbolfahmcaaMath
import Derived.WalkKit
import Derived.Deep.Draws
import Derived.Maps.AppendAt
import Derived.Deep.AppendLies
namespace Go.Proofs.Ytojlnbolfahmcaa
open Go.RowKit

theorem hide {p : Prop} (h : p) : Hid p := h
theorem ret_int {k : IntKind} {a b : Int} (h : a = b) : Ending.returned (.int k a) = .returned (.int k b) := by rw [h]
theorem ret_bool {a b : Bool} (h : a = b) : Ending.returned (.bool a) = .returned (.bool b) := by rw [h]

/-! a world that has grown: all old blocks but 'row' are as they were -/
section
variable {a w w' : World} {row : Option Nat}
theorem gb_refl (w : World) (row : Option Nat) : w.grownBy w row := ⟨rfl, rfl, rfl, Nat.le_refl _, fun _ _ _ => rfl⟩
theorem gb_trans (h : a.grownBy w row) (k : w.grownBy w' row) : a.grownBy w' row :=
  ⟨k.os.trans h.os, k.tape.trans h.tape, k.output.trans h.output, Nat.le_trans h.size k.size, fun i hi hn => (k.block i (Nat.lt_of_lt_of_le hi h.size) hn).trans (h.block i hi hn)⟩
theorem gb_any (h : a.grownBy w none) (row : Option Nat) : a.grownBy w row := ⟨h.os, h.tape, h.output, h.size, fun i hi _ => h.block i hi (by simp)⟩
theorem gb_drew (h : a.grownBy w row) : a.grownBy w.drew row := ⟨h.os, h.tape, h.output, h.size, h.block⟩
theorem gb_drewN (h : a.grownBy w row) (n : Nat) : a.grownBy (w.drewN n) row := ⟨h.os, h.tape, h.output, h.size, h.block⟩
theorem gb_alloc (h : a.grownBy w row) (o : Obj) : a.grownBy (w.alloc o) row := gb_trans h (World.grownBy_alloc w o row)
theorem gb_set (h : a.grownBy w row) {p : Addr} (hp : a.heap.size ≤ p.block ∨ row = some p.block) (u : Value) : a.grownBy (w.setCell p u) row :=
  ⟨h.os, h.tape, h.output, by simpa [World.setCell] using h.size, fun i hi hne => (Below.heap_setCell w p u i (by
    rintro rfl
    rcases hp with hp | hp
    · omega
    · exact hne hp.symm)).trans (h.block i hi hne)⟩
/-- Behind a step that may have written a row that is new, or the very row. -/
theorem gb_new (h : a.grownBy w row) {r : Option Nat} (k : w.grownBy w' r) (hr : ∀ g, r = some g → a.heap.size ≤ g ∨ row = some g) : a.grownBy w' row :=
  ⟨k.os.trans h.os, k.tape.trans h.tape, k.output.trans h.output, Nat.le_trans h.size k.size, fun i hi hn => (k.block i (Nat.lt_of_lt_of_le hi h.size) (fun e => by
    rcases hr i e.symm with h1 | h1
    · omega
    · exact hn h1.symm)).trans (h.block i hi hn)⟩
theorem gb_below (h : a.grownBy w none) : Below a.heap.size a w := ⟨h.os, h.tape, h.output, h.size, fun k hk => h.block k hk (by simp)⟩
theorem gb_of_below (h : Below a.heap.size a w) : a.grownBy w none := ⟨h.os, h.tape, h.output, h.size, fun k hk _ => h.block k hk⟩
theorem gb_cell (h : a.grownBy w row) {p : Addr} {v : Value} (hc : a.cell? p = some v) (hn : some p.block ≠ row) : w.cell? p = some v := h.cell hc hn
end

/-! a block known whole -/
def Blk (w : World) (g : Nat) (t : TypeId) (cs : Array Value) : Prop := w.heap[g]? = some (.cells cs t (0, 0))
section
variable {w w' : World} {g : Nat} {t : TypeId} {cs : Array Value}
theorem Blk.lt (h : Blk w g t cs) : g < w.heap.size := (Array.getElem?_eq_some_iff.1 h).1
theorem Blk.cell (h : Blk w g t cs) (i : Nat) : w.cell? ⟨g, i, none⟩ = cs[i]? := cell_of_row w g i cs t (0, 0) h
theorem Blk.free (h : Blk w g t cs) (i : Nat) : w.frozen? ⟨g, i, none⟩ = false := by
  unfold Blk at h
  simp [World.frozen?, h]
theorem Blk.new (w : World) (t : TypeId) (cs : Array Value) : Blk (w.alloc (.cells cs t)) w.heap.size t cs := heap_alloc_new w _
theorem Blk.set_ (h : Blk w g t cs) (i : Nat) (u : Value) : Blk (w.setCell ⟨g, i, none⟩ u) g t (cs.setIfInBounds i u) := by
  unfold Blk at h ⊢
  simp [World.setCell, Array.getElem?_modify, h]
theorem Blk.far (h : Blk w g t cs) {p : Addr} (hp : g ≠ p.block) (u : Value) : Blk (w.setCell p u) g t cs := (Below.heap_setCell w p u g hp).trans h
theorem Blk.grown (h : Blk w g t cs) {row : Option Nat} (hb : w.grownBy w' row) (hg : some g ≠ row) : Blk w' g t cs := (hb.block g h.lt hg).trans h
theorem Blk.drew (h : Blk w g t cs) : Blk w.drew g t cs := h
theorem Blk.drewN (h : Blk w g t cs) (n : Nat) : Blk (w.drewN n) g t cs := h
end

/-! a slice of bytes that reads as a list; 'row': a block in which it does not lie -/
def cs (l : List UInt8) : List Value := l.map fun x => .int .u8 (x.toNat : Int)
theorem cs_length (l : List UInt8) : (cs l).length = l.length := by simp [cs]
theorem cs_append (l m : List UInt8) : cs (l ++ m) = cs l ++ cs m := by simp [cs]
theorem cs_get (l : List UInt8) (i : Nat) (h : i < l.length) : (cs l)[i]? = some (.int .u8 (l[i].toNat : Int)) := by simp [cs, h]
theorem cs_one (l : List UInt8) : ∀ u ∈ cs l, u.oneCell' = true := by
  intro u hu
  obtain ⟨x, _, rfl⟩ := List.mem_map.1 hu
  rfl

def Rd (w : World) (row : Option Nat) (A : Option Addr) (n : Nat) (l : List UInt8) : Prop :=
  l.length = n ∧ (0 < n → ∃ b o, A = some ⟨b, o, none⟩ ∧ some b ≠ row ∧ ∀ i (h : i < l.length), w.cell? ⟨b, o + i, none⟩ = some (.int .u8 (l[i].toNat : Int)))

section
variable {w w' : World} {row r : Option Nat} {A : Option Addr} {n : Nat} {l : List UInt8}
theorem Rd.nil_ (w : World) (row : Option Nat) (A : Option Addr) : Rd w row A 0 [] := ⟨rfl, fun h => absurd h (by omega)⟩
theorem Rd.at_ (h : Rd w row A n l) {i : Nat} (hi : i < n) : ∃ b o, A = some ⟨b, o, none⟩ ∧ ∃ h : i < l.length, w.cell? ⟨b, o + i, none⟩ = some (.int .u8 (l[i].toNat : Int)) := by
  obtain ⟨b, o, hA, _, hc⟩ := h.2 (by omega)
  have hl : i < l.length := by have := h.1; omega
  exact ⟨b, o, hA, hl, hc i hl⟩
theorem Rd.grown (h : Rd w row A n l) (hg : w.grownBy w' r) (hr : r = none ∨ r = row) : Rd w' row A n l :=
  ⟨h.1, fun hn => by
    obtain ⟨b, o, hA, hb, hc⟩ := h.2 hn
    refine ⟨b, o, hA, hb, fun i hi => hg.cell (hc i hi) ?_⟩
    rcases hr with rfl | rfl
    · simp
    · exact hb⟩
theorem Rd.loose (h : Rd w row A n l) : Rd w none A n l :=
  ⟨h.1, fun hn => by
    obtain ⟨b, o, hA, _, hc⟩ := h.2 hn
    exact ⟨b, o, hA, by simp, hc⟩⟩
/-- What is read before the block is made does not lie in it. -/
theorem Rd.apart (h : Rd w none A n l) {g : Nat} (hg : w.heap.size ≤ g) : Rd w (some g) A n l :=
  ⟨h.1, fun hn => by
    obtain ⟨b, o, hA, _, hc⟩ := h.2 hn
    refine ⟨b, o, hA, ?_, hc⟩
    have := World.block_lt_of_cell? w _ (hc 0 (by have := h.1; omega))
    simp at this ⊢
    omega⟩
theorem Rd.cells {b o : Nat} (h : Rd w row (some ⟨b, o, none⟩) n l) (hn : 0 < n) : ∀ j u, (cs l)[j]? = some u → w.cell? ((⟨b, o, none⟩ : Addr).add j) = some u := by
  intro j u hu
  obtain ⟨b', o', hA, _, hc⟩ := h.2 hn
  injection hA with hA
  injection hA with h1 h2
  subst h1; subst h2
  have hj : j < l.length := by
    have := (List.getElem?_eq_some_iff.1 hu).1
    rwa [cs_length] at this
  rw [cs_get l j hj] at hu
  injection hu with hu
  subst hu
  have hadd : (⟨b, o, none⟩ : Addr).add j = ⟨b, o + j, none⟩ := by unfold Addr.add; split <;> simp_all
  rw [hadd]
  exact hc j hj
/-- A part of the front. -/
theorem Rd.take (h : Rd w row A n l) {k : Nat} (hk : k ≤ n) : Rd w row A k (l.take k) := by
  refine ⟨by rw [List.length_take, h.1]; omega, fun hn => ?_⟩
  obtain ⟨b, o, hA, hb, hc⟩ := h.2 (by omega)
  refine ⟨b, o, hA, hb, fun i hi => ?_⟩
  have hi' : i < l.length := by rw [List.length_take] at hi; omega
  rw [List.getElem_take]
  exact hc i hi'
end

/-- A row of the call's own reads as its bytes. -/
theorem own_rd {w : World} {base n c : Nat} {A : Option Addr} {l : List UInt8} (h : w.ownsRow base 5 1 (.slice A n c) n (cs l)) : Rd w none A n l := by
  have hl : l.length = n := by have := h.1; rw [cs_length] at this; omega
  refine ⟨hl, fun hn => ?_⟩
  rcases h.2 with ⟨_, h0⟩ | ⟨g, cap, cur, hv, _, hh, _, _, _, htake⟩
  · omega
  · injection hv with hA
    refine ⟨g, 0, hA, by simp, fun i hi => ?_⟩
    have hc : w.cell? ⟨g, 0 + i, none⟩ = cur[0 + i]? := cell_of_row w g (0 + i) cur 5 (0, 0) hh
    rw [hc, Nat.zero_add]
    have h1 := cs_get l i hi
    rw [← htake, List.getElem?_take, if_pos (by omega)] at h1
    simpa using h1
theorem own_form {w : World} {base n : Nat} {v : Value} {l : List UInt8} (h : w.ownsRow base 5 1 v n (cs l)) : ∃ A c, v = .slice A n c ∧ n ≤ c ∧ ∀ k, v.ownBlock = some k → base ≤ k ∧ k < w.heap.size := by
  have hlt := h.lt
  rcases h.2 with ⟨rfl, rfl⟩ | ⟨g, cap, cur, rfl, _, _, hc, _⟩
  · exact ⟨none, 0, rfl, Nat.le_refl _, hlt⟩
  · exact ⟨_, cap, rfl, hc, hlt⟩
/-- A row of the call's own does not lie in a block that is no row of bytes. -/
theorem own_rd_apart {w : World} {base n c g : Nat} {A : Option Addr} {l : List UInt8} (h : w.ownsRow base 5 1 (.slice A n c) n (cs l)) (hg : (Value.slice A n c).ownBlock ≠ some g) : Rd w (some g) A n l := by
  have hr := own_rd h
  refine ⟨hr.1, fun hn => ?_⟩
  obtain ⟨b, o, rfl, _, hc⟩ := hr.2 hn
  exact ⟨b, o, rfl, by simpa [Value.ownBlock] using hg, hc⟩

/-! a slice of such slices -/
def RdS (w : World) (row : Option Nat) (A : Option Addr) (n : Nat) (ps : List (List UInt8)) : Prop :=
  ps.length = n ∧ (0 < n → ∃ b o, A = some ⟨b, o, none⟩ ∧ some b ≠ row ∧
    ∀ i (h : i < ps.length), ∃ A' n' c', w.cell? ⟨b, o + i, none⟩ = some (.slice A' n' c') ∧ n' ≤ c' ∧ Rd w row A' n' ps[i])
section
variable {w w' : World} {row r : Option Nat} {A : Option Addr} {n : Nat} {ps : List (List UInt8)}
theorem RdS.nil_ (w : World) (row : Option Nat) (A : Option Addr) : RdS w row A 0 [] := ⟨rfl, fun h => absurd h (by omega)⟩
theorem RdS.grown (h : RdS w row A n ps) (hg : w.grownBy w' r) (hr : r = none ∨ r = row) : RdS w' row A n ps :=
  ⟨h.1, fun hn => by
    obtain ⟨b, o, hA, hb, hc⟩ := h.2 hn
    refine ⟨b, o, hA, hb, fun i hi => ?_⟩
    obtain ⟨A', n', c', h1, h2, h3⟩ := hc i hi
    refine ⟨A', n', c', hg.cell h1 ?_, h2, h3.grown hg hr⟩
    rcases hr with rfl | rfl
    · simp
    · exact hb⟩
theorem RdS.at_ (h : RdS w row A n ps) {i : Nat} (hi : i < n) : ∃ b o, A = some ⟨b, o, none⟩ ∧ some b ≠ row ∧ ∃ (h : i < ps.length) (A' : Option Addr) (n' c' : Nat), w.cell? ⟨b, o + i, none⟩ = some (.slice A' n' c') ∧ n' ≤ c' ∧ Rd w row A' n' ps[i] := by
  obtain ⟨b, o, hA, hb, hc⟩ := h.2 (by omega)
  have hl : i < ps.length := by have := h.1; omega
  exact ⟨b, o, hA, hb, hl, hc i hl⟩
theorem RdS.apart (h : RdS w none A n ps) {g : Nat} (hg : w.heap.size ≤ g) : RdS w (some g) A n ps :=
  ⟨h.1, fun hn => by
    obtain ⟨b, o, hA, _, hc⟩ := h.2 hn
    refine ⟨b, o, hA, ?_, fun i hi => ?_⟩
    · obtain ⟨A', n', c', h1, _⟩ := hc 0 (by have := h.1; omega)
      have := World.block_lt_of_cell? w _ h1
      simp at this ⊢
      omega
    · obtain ⟨A', n', c', h1, h2, h3⟩ := hc i hi
      exact ⟨A', n', c', h1, h2, h3.apart hg⟩⟩
theorem RdS.loose (h : RdS w row A n ps) : RdS w none A n ps :=
  ⟨h.1, fun hn => by
    obtain ⟨b, o, hA, _, hc⟩ := h.2 hn
    refine ⟨b, o, hA, by simp, fun i hi => ?_⟩
    obtain ⟨A', n', c', h1, h2, h3⟩ := hc i hi
    exact ⟨A', n', c', h1, h2, h3.loose⟩⟩
end

/-! append onto a row of the call's own: the source nil, empty or not -/
theorem wp_app {P : Program} (w : World) {o : Oper} {a : Act} {K : Act → World → Prop} {Q : Exit → Act → World → Prop} (s x : Operand) (t : TypeId)
    (ho : o.op = .call { callee := .builtin .append, args := #[s, x], argTypes := #[t, t] })
    (base : Nat) (i : TypeInfo) (ht : P.underlying t = some (.slice 5)) (hi : P.info? 5 = some i) (hz : i.zero = some (.int .u8 0)) (hsize : i.size = 1) (hby : i.bytes = 1)
    (v : Value) (n : Nat) (l : List UInt8) (hs : a.eval s = v) (hown : w.ownsRow base 5 1 v n (cs l))
    (A : Option Addr) (m c : Nat) (row : Option Nat) (k : List UInt8) (hx : a.eval x = .slice A m c) (hr : Rd w row A m k)
    (hbytes : n + m ≤ 140737488355328) (hbase : base ≤ w.heap.size)
    (h : ∀ v' w', w'.ownsRow base 5 1 v' (n + m) (cs (l ++ k)) → w.grownBy w' v.ownBlock → (v'.ownBlock = v.ownBlock ∨ ∀ g, v'.ownBlock = some g → w.heap.size ≤ g) → K (a.put o.dst v') w') : o.wp P a w K Q := by
  have hml : k.length = m := hr.1
  obtain ⟨v', w', hrun, h2, h3, h4⟩ : ∃ v' w', (Builtin.append_ #[t, t] o.type #[v, .slice A m c]).run P w = .ok v' w' ∧ w'.ownsRow base 5 1 v' (n + m) (cs (l ++ k)) ∧ w.grownBy w' v.ownBlock ∧
      (v'.ownBlock = v.ownBlock ∨ ∀ g, v'.ownBlock = some g → w.heap.size ≤ g) := by
    rcases A with _ | ad
    · have hm : m = 0 := by
        rcases Nat.eq_zero_or_pos m with h0 | h0
        · exact h0
        · obtain ⟨_, _, hA, _⟩ := hr.2 h0
          cases hA
      subst hm
      obtain rfl : k = [] := List.eq_nil_of_length_eq_zero hml
      refine ⟨v, w, ?_, by simpa using hown, gb_refl w _, .inl rfl⟩
      rcases hown.2 with ⟨rfl, rfl⟩ | ⟨g, cap, cur, rfl, _, _, hnc, _⟩
      · simp [Builtin.append_, run_underlying ht, sizeOf, typeInfo, hi, Builtin.lenOf, Builtin.firstCells]
      · simp [Builtin.append_, run_underlying ht, sizeOf, typeInfo, hi, Builtin.lenOf, Builtin.firstCells, hnc, storeCells]
    · have hcells : ∀ j u, (cs k)[j]? = some u → w.cell? (ad.add j) = some u := by
        intro j u hu
        rcases Nat.eq_zero_or_pos m with h0 | h0
        · obtain rfl : k = [] := List.eq_nil_of_length_eq_zero (by omega)
          simp [cs] at hu
        · obtain ⟨b, o, hA, _⟩ := hr.2 h0
          injection hA with hA
          subst hA
          exact hr.cells h0 j u hu
      obtain ⟨v', w', hrun, h2, h3, _, h5⟩ := run_append_own_at (P := P) w base t o.type 5 i (.int .u8 0) 1 1 ht hi hz hsize hby rfl (by decide) v n (cs l) hown ad m c (cs k) (by rw [cs_length, hml]; omega) hcells (cs_one k)
        (by unfold maxLen; omega) (by omega) hbase
      exact ⟨v', w', hrun, by rw [cs_append]; exact h2, h3, h5.imp id fun e g hg => by rw [e] at hg; injection hg with hg; omega⟩
  unfold Oper.wp execOp
  simp only [ho, resolve, invoke, builtin, Sem.run_bind, Sem.run_pure, Result.andThen_ok, List.map_toArray, List.map_cons, List.map_nil, hs, hx, hrun]
  exact h v' w' h2 h3 h4

theorem wpl_app {P : Program} (w : World) {ops : Array Oper} {rest : List Oper} {o : Oper} {a : Act} {Q : Exit → Act → World → Prop} (hgd : o.guard = none) (s x : Operand) (t : TypeId)
    (ho : o.op = .call { callee := .builtin .append, args := #[s, x], argTypes := #[t, t] })
    (base : Nat) (i : TypeInfo) (ht : P.underlying t = some (.slice 5)) (hi : P.info? 5 = some i) (hz : i.zero = some (.int .u8 0)) (hsize : i.size = 1) (hby : i.bytes = 1)
    (v : Value) (n : Nat) (l : List UInt8) (hs : a.eval s = v) (hown : w.ownsRow base 5 1 v n (cs l))
    (A : Option Addr) (m c : Nat) (row : Option Nat) (k : List UInt8) (hx : a.eval x = .slice A m c) (hr : Rd w row A m k)
    (hbytes : n + m ≤ 140737488355328) (hbase : base ≤ w.heap.size)
    (h : ∀ v' w', w'.ownsRow base 5 1 v' (n + m) (cs (l ++ k)) → w.grownBy w' v.ownBlock → (v'.ownBlock = v.ownBlock ∨ ∀ g, v'.ownBlock = some g → w.heap.size ≤ g) → wpList P ops Q rest (a.put o.dst v') w') : wpList P ops Q (o :: rest) a w :=
  wpList_plain hgd fun _ hK => wp_app w s x t ho base i ht hi hz hsize hby v n l hs hown A m c row k hx hr hbytes hbase fun v' w' h2 h3 h4 => hK _ _ (h v' w' h2 h3 h4)
end Go.Proofs.Ytojlnbolfahmcaa
