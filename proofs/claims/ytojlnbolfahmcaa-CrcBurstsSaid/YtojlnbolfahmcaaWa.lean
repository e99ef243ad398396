/-
  The contracts of crc.New, the method Sum of crc.Hash and crc.table: what each returns and what becomes of memory.
  Conditions: lengths as the statements bound them.
-/
import Derived.Test.YtojlnbolfahmcaaChecked
import Derived.Test.YtojlnbolfahmcaaBase
namespace Go.Proofs.Ytojlnbolfahmcaa
open Go.RowKit

set_option maxHeartbeats 400000 in
theorem new_any (w : World) : Calls Try.prog 8 #[] w fun e w' => e = .returned (.pointer (some ⟨w.heap.size, 0, none⟩)) ∧ w.alloc (.cells #[.int .u32 4294967295] 41) = w' := by
  go_enter Try.func8, Try.ntmps8
  go_wp2
  go_ret
  exact ⟨rfl, rfl⟩

theorem compl_int (r : Nat) (hr : r < 4294967296) : bits .xor .u32 IntKind.u32.max (r : Int) = ((4294967295 - r : Nat) : Int) := by
  rw [Crc.compl_eq hr, Nat.xor_comm]
  exact u32_xor_nat 4294967295 r (by decide) hr

set_option maxHeartbeats 400000 in
theorem hsum_any (w : World) (h r : Nat) (hr : r < 4294967296) (hc : w.cell? ⟨h, 0, none⟩ = some (.int .u32 (r : Int))) :
    Calls Try.prog 10 #[.pointer (some ⟨h, 0, none⟩)] w fun e w' => e = .returned (.int .u32 ((4294967295 - r : Nat) : Int)) ∧ w = w' := by
  go_enter Try.func10, Try.ntmps10
  go_wp2
  go_ret
  exact ⟨ret_int (compl_int r hr), rfl⟩

/-! the table -/
def tarr (k : Nat) : Array Value := ((List.range 16).map fun i => Value.int .u32 (if i < k then (Crc.tab i : Int) else 0)).toArray
theorem tarr_size (k : Nat) : (tarr k).size = 16 := by simp [tarr]
theorem tarr_get (k i : Nat) (h : i < 16) : (tarr k)[i]? = some (.int .u32 (if i < k then (Crc.tab i : Int) else 0)) := by
  simp [tarr, h]
theorem tarr_set (k : Nat) (h : k < 16) : (tarr k).setIfInBounds k (.int .u32 (Crc.tab k : Int)) = tarr (k + 1) := by
  apply Array.ext_getElem?
  intro i
  rw [Array.getElem?_setIfInBounds]
  by_cases hi : i < 16
  · rw [tarr_get (k + 1) i hi]
    by_cases hk : k = i
    · subst hk
      rw [if_pos rfl, if_pos (by rw [tarr_size]; exact h), if_pos (by omega)]
    · rw [if_neg hk, tarr_get k i hi]
      by_cases h1 : i < k
      · rw [if_pos h1, if_pos (by omega)]
      · rw [if_neg h1, if_neg (by omega)]
  · rw [if_neg (by omega), Array.getElem?_eq_none (by rw [tarr_size]; omega), Array.getElem?_eq_none (by rw [tarr_size]; omega)]
theorem tarr_zero : #[Value.int IntKind.u32 0, Value.int IntKind.u32 0, Value.int IntKind.u32 0, Value.int IntKind.u32 0,
      Value.int IntKind.u32 0, Value.int IntKind.u32 0, Value.int IntKind.u32 0, Value.int IntKind.u32 0,
      Value.int IntKind.u32 0, Value.int IntKind.u32 0, Value.int IntKind.u32 0, Value.int IntKind.u32 0,
      Value.int IntKind.u32 0, Value.int IntKind.u32 0, Value.int IntKind.u32 0, Value.int IntKind.u32 0] = tarr 0 := rfl

theorem and_one (r : Nat) (hr : r < 4294967296) : bits .and .u32 (r : Int) 1 = ((r % 2 : Nat) : Int) := by
  rw [show (1 : Int) = ((1 : Nat) : Int) from rfl, u32_and_nat r 1 hr (by decide), Nat.and_one_is_mod]
theorem stp_odd (r : Nat) (hr : r < 4294967296) (h : (bits .and .u32 (r : Int) 1 == 1) = true) : (Crc.stp r : Int) = bits .xor .u32 ((r : Int) / 2) 3988292384 := by
  rw [and_one r hr, beq_iff_eq] at h
  have h1 : r % 2 = 1 := by omega
  rw [show ((r : Int) / 2) = ((r / 2 : Nat) : Int) from by omega, show (3988292384 : Int) = ((3988292384 : Nat) : Int) from rfl, u32_xor_nat _ _ (by omega) (by decide)]
  unfold Crc.stp
  rw [if_pos h1]
  rfl
theorem stp_even (r : Nat) (hr : r < 4294967296) (h : (bits .and .u32 (r : Int) 1 == 1) = false) : (Crc.stp r : Int) = (r : Int) / 2 := by
  rw [and_one r hr, beq_eq_false_iff_ne] at h
  have h1 : ¬ r % 2 = 1 := by omega
  unfold Crc.stp
  rw [if_neg h1]
  omega

theorem sz42 : (Try.prog.info? 42).map (·.size) = some (tarr 16).size := by rw [tarr_size]; kernel_rfl
theorem tarr_one : (tarr 16).all (·.oneCell') = true := by
  rw [Array.all_eq_true_iff_forall_mem]
  intro v hv
  obtain ⟨i, _, rfl⟩ := List.mem_map.1 (List.mem_toArray.1 hv)
  rfl
theorem gb_setRow {a w : World} {row : Option Nat} (h : a.grownBy w row) {g : Nat} (hp : a.heap.size ≤ g ∨ row = some g) (cs : Array Value) : a.grownBy (w.setRow g cs) row :=
  ⟨h.os, h.tape, h.output, by simpa using h.size, fun i hi hne => (setRow_other w g i cs (by
    rintro rfl
    rcases hp with hp | hp
    · omega
    · exact hne hp.symm)).trans (h.block i hi hne)⟩

set_option maxHeartbeats 400000 in
theorem table_any (w : World) :
    Calls Try.prog 19 #[] w fun e w' => e = .returned (.agg (tarr 16)) ∧ w.grownBy w' none := by
  go_enter Try.func19, Try.ntmps19
  go_wp2
  rw [tarr_zero]
  obtain ⟨w0, hw0, B0, G0⟩ : ∃ w0, w0 = w.alloc (.cells (tarr 0) 42) ∧ Hid (Blk w0 w.heap.size 42 (tarr 0)) ∧ Hid (w.grownBy w0 none) := ⟨_, rfl, Blk.new _ _ _, gb_alloc (gb_refl _ _) _⟩
  rw [← hw0]
  clear hw0
  go_loopw [3] (fun i wr => ∃ k : Nat, k ≤ 16 ∧ i = .int .i64 k ∧ Blk wr w.heap.size 42 (tarr k) ∧ w.grownBy wr none) (fun i _ => 16 - (intOf i).toNat)
  case atStart => exact ⟨0, by omega, rfl, B0.out, G0.out⟩
  case round =>
    obtain ⟨k, hk, rfl, hB, hG⟩ := hrel
    by_cases hlt4 : k < 16
    · have B1 := hide hB
      have G1 := hide hG
      clear hB hG B0 G0
      go_wp2
      go_loop [2, 8] (fun r j => ∃ m : Nat, m ≤ 4 ∧ j = .int .i64 m ∧ r = .int .u32 (Crc.stps m k : Int)) (fun _ j => 4 - (intOf j).toNat)
      case atStart => exact ⟨0, by omega, rfl, rfl⟩
      case round =>
        obtain ⟨m, hm, rfl, rfl⟩ := hrel
        have hb : Crc.stps m k < 4294967296 := Crc.stps_lt m (by omega)
        have hn : Hid (Crc.stps (m + 1) k = Crc.stp (Crc.stps m k)) := rfl
        generalize hr : Crc.stps m k = r at *
        have Hr := hide hr
        clear hr
        by_cases hlt : m < 4
        · go_wp2
          · refine ⟨⟨m + 1, by omega, by go_num, ?_⟩, by simp [intOf]; omega⟩
            rw [hn.out, stp_odd r hb (by assumption)]
          · refine ⟨⟨m + 1, by omega, by go_num, ?_⟩, by simp [intOf]; omega⟩
            rw [hn.out, stp_even r hb (by assumption)]
        · have h4 : m = 4 := by omega
          subst h4
          have hc := (B1.out).cell k
          rw [tarr_get k k (by omega), if_neg (by omega)] at hc
          have hf := (B1.out).free k
          go_wp2
          refine ⟨⟨k + 1, by omega, by go_num, ?_, ?_⟩, by simp [intOf]; omega⟩
          · have h1 := (B1.out).set_ k (.int .u32 (Crc.tab k : Int))
            rw [tarr_set k hlt4] at h1
            rw [← Hr.out]
            exact h1
          · exact gb_set G1.out (.inl (Nat.le_refl _)) _
    · have h16 : k = 16 := by omega
      subst h16
      have B1 := hide hB
      have G1 := hide hG
      clear hB hG B0 G0
      go_wp2_with (first
        | (refine wpList_load_row rfl 42 (.tmp 0) rfl w.heap.size rfl 42 (tarr 16) (0, 0) _ B1.out Try.underlying42 rfl sz42 ?_)
        | (refine wpList_store_row rfl 42 (.tmp 0) (.tmp 23) rfl w.heap.size (tarr 16) rfl rfl 42 (tarr 16) B1.out sz42 rfl tarr_one ?_))
      refine bodyPost_ret (results_cell_row rfl _ _ w.heap.size 42 (tarr 16) (0, 0) _ rfl (setRow_heap _ _ _ _ _ _ B1.out) Try.underlying42 rfl sz42) rfl ⟨rfl, ?_⟩
      exact gb_setRow G1.out (.inl (Nat.le_refl _)) _
end Go.Proofs.Ytojlnbolfahmcaa
