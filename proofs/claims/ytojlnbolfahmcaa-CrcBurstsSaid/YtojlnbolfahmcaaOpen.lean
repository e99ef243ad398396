/-
  What an argument of bytes, or of slices of bytes, reads as: a list of bytes, a list of such lists.
  Conditions: the argument was read whole by the statement's own form.
-/
import Derived.Test.YtojlnbolfahmcaaBase
import Derived.OpenShut
import Derived.Deep.Matrix
namespace Go.Proofs.Ytojlnbolfahmcaa
open Go.RowKit

/-- What the walk is told of a slice of integers that came in. -/
def IsRow (k : IntKind) (w : World) (a : Option Addr) (len cap : Nat) (zs : List Int) : Prop :=
  (a = none ∧ len = 0 ∧ cap = 0 ∧ zs = []) ∨
  ∃ x, a = some x ∧ len ≤ cap ∧ cap ≤ maxLen ∧ zs.length = cap ∧ (∀ i, i < zs.length → w.cell? (x.add i) = some (.int k (zs.getD i 0))) ∧ ∀ n ∈ zs, (Lit.int k n).wf = true

def bytesOf (zs : List Int) (n : Nat) : List UInt8 := (zs.take n).map fun z => UInt8.ofNat z.toNat
theorem bytesOf_length {zs : List Int} {n : Nat} (h : n ≤ zs.length) : (bytesOf zs n).length = n := by
  unfold bytesOf
  rw [List.length_map, List.length_take]
  omega
theorem bytesOf_get {zs : List Int} {n i : Nat} (hw : ∀ z ∈ zs, (Lit.int .u8 z).wf = true) (h : i < (bytesOf zs n).length) : ((bytesOf zs n)[i].toNat : Int) = zs.getD i 0 := by
  have hl : i < n ∧ i < zs.length := by
    unfold bytesOf at h
    rw [List.length_map, List.length_take] at h
    omega
  have hb := bounds_u8 (hw zs[i] (List.getElem_mem hl.2))
  have e : zs.getD i 0 = zs[i] := by simp [List.getD, hl.2]
  rw [e]
  simp only [bytesOf, List.getElem_map, List.getElem_take, UInt8.toNat_ofNat']
  omega

theorem rd_cells {w : World} {a : Addr} {n : Nat} {zs : List Int} (hn : n ≤ zs.length) (hw : ∀ z ∈ zs, (Lit.int .u8 z).wf = true) (hc : ∀ i, i < zs.length → w.cell? (a.add i) = some (.int .u8 (zs.getD i 0))) :
    Rd w none (some a) n (bytesOf zs n) := by
  refine ⟨bytesOf_length hn, fun h0 => ?_⟩
  obtain ⟨b, o, spot⟩ := a
  have h := hc 0 (by omega)
  have hs : spot = none := by simpa [Addr.add] using World.cell?_spot h
  subst hs
  refine ⟨b, o, rfl, by simp, fun i hi => ?_⟩
  have hadd : (⟨b, o, none⟩ : Addr).add i = ⟨b, o + i, none⟩ := by unfold Addr.add; split <;> simp_all
  rw [bytesOf_get hw hi, ← hadd]
  exact hc i (by rw [bytesOf_length hn] at hi; omega)

theorem rd_row {w : World} {a : Option Addr} {len cap : Nat} {zs : List Int} (h : IsRow .u8 w a len cap zs) : ∃ l, Rd w none a len l ∧ len ≤ cap ∧ len ≤ maxLen := by
  rcases h with ⟨rfl, rfl, rfl, rfl⟩ | ⟨x, rfl, hl, hm, hz, hc, hw⟩
  · exact ⟨[], Rd.nil_ _ _ _, Nat.le_refl _, Nat.zero_le _⟩
  · exact ⟨bytesOf zs len, rd_cells (by omega) hw hc, hl, Nat.le_trans hl hm⟩

theorem rds_open {H : Type} {enc : TypeId × Value → H} {P : Program} {w : World} {base fuel : Nat} {held : Bool} {t e q : TypeId} {a : Option Addr} {len cap : Nat} {x : DataW H × List MemPlace}
    (ht : P.underlying t = some (.slice e)) (he : P.underlying e = some (.slice q)) (hq : P.underlying q = some (.int .u8)) (ce : P.cellsOf e = 1) (cq : P.cellsOf q = 1)
    (h : DataW.trod enc P w base (fun _ => true) held fuel t [.slice a len cap] = some x) : ∃ ps, RdS w none a len ps ∧ len ≤ maxLen ∧ ∀ p ∈ ps, p.length ≤ maxLen := by
  rcases Deep.open_int_rows ht he hq ce cq h with ⟨hcs, _⟩ | ⟨a', len', cap', A, L, C, Z, hcs, _, hl, hm, _, hr⟩
  · simp at hcs
    obtain ⟨rfl, rfl, rfl⟩ := hcs
    exact ⟨[], RdS.nil_ _ _ _, Nat.zero_le _, by simp⟩
  · simp at hcs
    obtain ⟨rfl, rfl, rfl⟩ := hcs
    refine ⟨(List.range len).map fun r => bytesOf (Z r) (L r), ⟨by simp, fun h0 => ?_⟩, Nat.le_trans hl hm, ?_⟩
    · obtain ⟨b, o, spot⟩ := a'
      have h1 := (hr 0 (by omega)).1
      have hs : spot = none := by simpa [Addr.add] using World.cell?_spot h1
      subst hs
      refine ⟨b, o, rfl, by simp, fun i hi => ?_⟩
      have hi' : i < len := by simpa using hi
      obtain ⟨h2, h3, h4, h5, h6, h7, h8⟩ := hr i (by omega)
      have hadd : (⟨b, o, none⟩ : Addr).add i = ⟨b, o + i, none⟩ := by unfold Addr.add; split <;> simp_all
      rw [hadd] at h2
      refine ⟨A i, L i, C i, h2, h3, ?_⟩
      simp only [List.getElem_map, List.getElem_range]
      cases hA : A i with
      | none =>
        have h9 := h7 hA
        have h10 : L i = 0 := by omega
        rw [h10]
        exact ⟨bytesOf_length (by omega), fun h => absurd h (by omega)⟩
      | some a' => exact rd_cells (by omega) h6 (fun c hc => (h8 a' hA).2 c (by omega))
    · intro p hp
      obtain ⟨r, hr', rfl⟩ := List.mem_map.1 hp
      have hr2 : r < len := List.mem_range.1 hr'
      obtain ⟨h2, h3, h4, h5, _⟩ := hr r (by omega)
      rw [bytesOf_length (by omega)]
      omega
end Go.Proofs.Ytojlnbolfahmcaa
