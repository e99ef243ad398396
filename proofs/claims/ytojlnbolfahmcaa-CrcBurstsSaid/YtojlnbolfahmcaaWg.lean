/-
  The contract of the chapter example that every statement of chapter 5 ends with: it is true.
  Conditions: lengths as the statements bound them.
-/
import Derived.Test.YtojlnbolfahmcaaWe
import Derived.Lib.SlBytesConst
import Derived.Lib.SmallJoins
namespace Go.Proofs.Ytojlnbolfahmcaa
open Go.RowKit

theorem sum_example : Crc.sum [49, 50, 51, 52, 53, 54, 55, 56, 57] = 3421780262 := by decide +kernel

/-- A block of bytes. -/
theorem rd_blk {w : World} {g : Nat} {l : List UInt8} {fr : Nat × Nat} (h : w.heap[g]? = some (.cells (cs l).toArray 5 fr)) : Rd w none (some ⟨g, 0, none⟩) l.length l := by
  refine ⟨rfl, fun _ => ⟨g, 0, rfl, by simp, fun i hi => ?_⟩⟩
  rw [cell_of_row w g (0 + i) _ 5 fr h, Nat.zero_add]
  simpa using cs_get l i hi

theorem heap3 (w : World) (a b c : Obj) : (((w.alloc a).alloc b).alloc c).heap[w.heap.size]? = some a ∧ (((w.alloc a).alloc b).alloc c).heap[w.heap.size + 1]? = some b ∧ (((w.alloc a).alloc b).alloc c).heap[w.heap.size + 1 + 1]? = some c := by
  have s1 : (w.alloc a).heap.size = w.heap.size + 1 := by simp
  have s2 : ((w.alloc a).alloc b).heap.size = w.heap.size + 1 + 1 := by simp
  refine ⟨?_, ?_, ?_⟩
  · rw [Below.heap_alloc _ _ _ (by omega), Below.heap_alloc _ _ _ (by omega)]
    exact heap_alloc_new w a
  · rw [Below.heap_alloc _ _ _ (by omega), ← s1]
    exact heap_alloc_new (w.alloc a) b
  · rw [← s2]
    exact heap_alloc_new ((w.alloc a).alloc b) c

theorem awake_parts (w : World) (fr fr' : Nat × Nat) : RdS (((w.alloc (.cells #[.int .u8 49, .int .u8 50, .int .u8 51, .int .u8 52] 5 fr)).alloc
        (.cells #[.int .u8 53, .int .u8 54, .int .u8 55, .int .u8 56, .int .u8 57] 5 fr')).alloc
      (.cells #[.slice (some ⟨w.heap.size, 0, none⟩) 4 4, .slice (some ⟨w.heap.size + 1, 0, none⟩) 5 5] 25)) none (some ⟨w.heap.size + 1 + 1, 0, none⟩) 2 [[49, 50, 51, 52], [53, 54, 55, 56, 57]] := by
  obtain ⟨h1, h2, h3⟩ := heap3 w (.cells #[.int .u8 49, .int .u8 50, .int .u8 51, .int .u8 52] 5 fr) (.cells #[.int .u8 53, .int .u8 54, .int .u8 55, .int .u8 56, .int .u8 57] 5 fr')
    (.cells #[.slice (some ⟨w.heap.size, 0, none⟩) 4 4, .slice (some ⟨w.heap.size + 1, 0, none⟩) 5 5] 25)
  refine ⟨rfl, fun _ => ⟨_, 0, rfl, by simp, fun i hi => ?_⟩⟩
  have hi2 : i = 0 ∨ i = 1 := by simp at hi; omega
  rcases hi2 with rfl | rfl
  · exact ⟨_, 4, 4, cell_of_row _ _ 0 _ _ _ h3, by omega, rd_blk (l := [49, 50, 51, 52]) h1⟩
  · exact ⟨_, 5, 5, cell_of_row _ _ 1 _ _ _ h3, by omega, rd_blk (l := [53, 54, 55, 56, 57]) h2⟩

set_option maxHeartbeats 400000 in
theorem awake_any (w : World) : Calls Try.prog 13 #[] w fun e w' => e = .returned (.bool true) ∧ w.grownBy w' none := by
  have kc := fun (w : World) (C : Array Value) (n c : Nat) => Lib.run_convert_bytes_const (P := Try.prog) w 25 5 C n c Try.underlying25 Try.underlying5
  have kc2 := fun (C C' : Array Value) (fr : Nat × Nat) (n c : Nat) => Joins.run_convert_bytes_const_at (P := Try.prog) (w.alloc (.cells C 5 fr)) 25 5 C' n c (w.heap.size + 1) (by simp) Try.underlying25 Try.underlying5
  go_enter Try.func13, Try.ntmps13
  go_wp2_with fail
  refine (sum_any _ 2 2 _ _ (awake_parts w _ _) (by omega) (by decide)).mono ?_
  rintro e w1 ⟨rfl, hg⟩
  have G1 := hide (p := w.grownBy w1 none) (gb_trans (gb_alloc (gb_alloc (gb_alloc (gb_refl w none) _) _) _) hg)
  clear hg
  have hs : (Crc.sum [[49, 50, 51, 52], [53, 54, 55, 56, 57]].flatten : Int) = 3421780262 := by
    have := sum_example
    simp only [List.flatten_cons, List.flatten_nil, List.append_nil, List.cons_append, List.nil_append]
    omega
  rw [hs]
  clear hs kc kc2
  go_wp2_with fail
  refine (sum_any none 0 0 [] w1 (RdS.nil_ _ _ _) (by omega) (by simp)).mono ?_
  rintro e w2 ⟨rfl, hg⟩
  have G2 := hide (gb_trans G1.out hg)
  clear hg
  have hs : (Crc.sum (List.flatten []) : Int) = 0 := rfl
  rw [hs]
  clear hs
  go_wp2
  go_ret
  exact ⟨rfl, G2.out⟩
end Go.Proofs.Ytojlnbolfahmcaa
