/-
  The contracts of bytes.Clone, cursor.put, cursor.Put32, bytes.Equal and the reference Put of a number: what each returns and what becomes of memory.
  Conditions: lengths as the statements bound them.
-/
import Derived.Test.YtojlnbolfahmcaaChecked
import Derived.Test.YtojlnbolfahmcaaBase
import Derived.WalkSpells
namespace Go.Proofs.Ytojlnbolfahmcaa
open Go.RowKit

theorem info5 : (Try.prog.info? 5).map (fun i => (i.zero, i.size, i.bytes)) = some (some (.int .u8 0), 1, 1) := by kernel_rfl

/-- A slice in memory of the call's own, that reads so. -/
def GivesRow (w : World) (n : Nat) (l : List UInt8) (e : Ending) (w' : World) : Prop :=
  ∃ A c, e = .returned (.slice A n c) ∧ n ≤ c ∧ w'.ownsRow w.heap.size 5 1 (.slice A n c) n (cs l) ∧ w.grownBy w' none
theorem GivesRow.mk_ {w w' : World} {n : Nat} {l : List UInt8} {v : Value} (h : w'.ownsRow w.heap.size 5 1 v n (cs l)) (hg : w.grownBy w' none) : GivesRow w n l (.returned v) w' := by
  obtain ⟨A, c, rfl, hc, _⟩ := own_form h
  exact ⟨A, c, rfl, hc, h, hg⟩
theorem eql_nil (w : World) (A : Option Addr) (n c n' c' : Nat) : (binOp .eql 25 (.slice A n c) (.slice none n' c')).run Try.prog w = .ok (.bool A.isNone) w :=
  Lib.run_eql_slice_nil w _ _ A n c n' c' Try.underlying25

set_option maxHeartbeats 400000 in
theorem clone_any (A : Option Addr) (n c : Nat) (l : List UInt8) (w : World) (hr : Rd w none A n l) (hn : n ≤ 1000000) :
    Calls Try.prog 24 #[.slice A n c] w (GivesRow w n l) := by
  have q := eql_nil
  obtain ⟨i0, hi, hz0, hz1, hz2⟩ := info_parts info5
  rcases A with _ | ad
  · have hl : l = [] ∧ n = 0 := by
      rcases Nat.eq_zero_or_pos n with h0 | h0
      · exact ⟨List.eq_nil_of_length_eq_zero (by have := hr.1; omega), h0⟩
      · obtain ⟨_, _, hA, _⟩ := hr.2 h0
        cases hA
    obtain ⟨rfl, rfl⟩ := hl
    clear hr hi hz0 hz1 hz2
    go_enter Try.func24, Try.ntmps24
    go_wp2
    go_ret
    exact GivesRow.mk_ (World.ownsRow_nil _ _ _ _) (gb_refl _ _)
  · have R1 := hide hr
    clear hr
    go_enter Try.func24, Try.ntmps24
    go_wp2_with (at_builtin; refine wpl_app _ rfl (.tmp 5) (.tmp 6) 25 rfl w.heap.size i0 Try.underlying25 hi hz0 hz1 hz2 _ 0 [] rfl (World.ownsRow_made w #[] 0 (Nat.le_refl _) (Nat.zero_le _) rfl) (some ad) n c none l rfl (R1.out.grown (gb_alloc (gb_refl _ _) _) (.inl rfl)) (by omega) (by simp) ?_)
    intro v' w1 hown hgrow _
    have O1 := hide hown
    have G1 := hide hgrow
    clear hown hgrow
    go_wp2
    go_ret
    exact GivesRow.mk_ (by simpa using O1.out) (gb_new (gb_alloc (gb_refl _ _) _) G1.out (by intro g hg; simp [Value.ownBlock] at hg; omega))

/-- One new cell, read as one byte. -/
theorem rd_one (w : World) {z : Int} {x : UInt8} (hz : z = (x.toNat : Int)) : Rd (w.alloc (.cells #[.int .u8 z] 5)) none (some ⟨w.heap.size, 0, none⟩) 1 [x] := by
  subst hz
  refine ⟨rfl, fun _ => ⟨w.heap.size, 0, rfl, by simp, fun i hi => ?_⟩⟩
  have h0 : i = 0 := by simp at hi; omega
  subst h0
  exact (Blk.new w 5 #[.int .u8 (x.toNat : Int)]).cell 0
theorem byte_int (m k : Nat) : (m : Int) / 2 ^ (8 * k) % 256 = ((UInt8.ofNat (m / 2 ^ (8 * k))).toNat : Int) := by
  rw [UInt8.toNat_ofNat']
  simp
theorem le4_take (m k : Nat) (h : k < 4) : (Crc.le4 m).take (k + 1) = (Crc.le4 m).take k ++ [UInt8.ofNat (m / 2 ^ (8 * k))] := by
  rcases (by omega : k = 0 ∨ k = 1 ∨ k = 2 ∨ k = 3) with rfl | rfl | rfl | rfl <;> simp [Crc.le4]

set_option maxHeartbeats 400000 in
theorem put32_any (A : Option Addr) (n c : Nat) (l : List UInt8) (m : Nat) (w : World) (hr : Rd w none A n l) (hn : n ≤ 1000000) (hm : m < 4294967296) :
    Calls Try.prog 23 #[.slice A n c, .int .u32 (m : Int), .int .i64 4] w (GivesRow w (n + 4) (l ++ Crc.le4 m)) := by
  obtain ⟨i0, hi, hz0, hz1, hz2⟩ := info_parts info5
  have R1 := hide hr
  clear hr
  go_enter Try.func23, Try.ntmps23
  go_wp2_with fail
  refine (clone_any A n c l w R1.out hn).mono ?_
  rintro e w1 ⟨A1, c1, rfl, hc1, hown, hgrow⟩
  have O1 := hide hown
  have G1 := hide hgrow
  clear hown hgrow
  go_wp2
  go_loopw [7, 12] (fun v i wr => ∃ k : Nat, k ≤ 4 ∧ i = .int .i64 k ∧ wr.ownsRow w.heap.size 5 1 v (n + k) (cs (l ++ (Crc.le4 m).take k)) ∧ w.grownBy wr none) (fun _ i _ => 4 - (intOf i).toNat)
  case atStart => exact ⟨0, by omega, rfl, by simpa using O1.out, G1.out⟩
  case round =>
    obtain ⟨k, hk, rfl, hO, hG⟩ := hrel
    have O2 := hide hO
    have G2 := hide hG
    clear hO hG O1 G1
    by_cases hlt : k < 4
    · go_wp2_with (at_builtin; refine wpl_app _ rfl (.tmp 15) (.tmp 22) 25 rfl w.heap.size i0 Try.underlying25 hi hz0 hz1 hz2 _ (n + k) (l ++ (Crc.le4 m).take k) rfl (O2.out.alloc _) (some ⟨wr.heap.size, 0, none⟩) 1 1 none [UInt8.ofNat (m / 2 ^ (8 * k))] rfl (rd_one wr (byte_int m k)) (by omega) (by have := G2.out.size; simp; omega) ?_)
      intro v' w1 hown hgrow hlie
      have O3 := hide hown
      have G3 : Hid (w.grownBy w1 none) := gb_new (gb_alloc G2.out _) hgrow (fun g hg => .inl (O2.out.lt g hg).1)
      clear hown hgrow hlie
      go_wp2
      refine ⟨⟨k + 1, by omega, by go_num, ?_, G3.out⟩, by simp [intOf]; omega⟩
      rw [le4_take m k hlt, ← Nat.add_assoc]
      simpa [List.append_assoc] using O3.out
    · have h4 : k = 4 := by omega
      subst h4
      go_wp2
      go_ret
      exact GivesRow.mk_ O2.out G2.out

set_option maxHeartbeats 400000 in
theorem cursorPut_any (A : Option Addr) (n c : Nat) (l : List UInt8) (m : Nat) (w : World) (hr : Rd w none A n l) (hn : n ≤ 1000000) (hm : m < 4294967296) :
    Calls Try.prog 20 #[.slice A n c, .int .u32 (m : Int)] w (GivesRow w (n + 4) (l ++ Crc.le4 m)) := by
  have R1 := hide hr
  clear hr
  go_enter Try.func20, Try.ntmps20
  go_wp2_with fail
  refine (put32_any A n c l m w R1.out hn hm).mono ?_
  rintro e w1 ⟨A1, c1, rfl, hc1, hown, hgrow⟩
  have O1 := hide hown
  have G1 := hide hgrow
  clear hown hgrow
  go_wp2
  go_ret
  exact GivesRow.mk_ O1.out G1.out

/-! bytes.Equal -/
theorem conv_rd (w : World) (row : Option Nat) (A : Option Addr) (n c : Nat) (l : List UInt8) (hr : Rd w row A n l) :
    (convert 25 9 (.slice A n c)).run Try.prog w = .ok (.string ⟨l.toArray⟩) w := by
  rcases Nat.eq_zero_or_pos n with h0 | h0
  · subst h0
    obtain rfl : l = [] := List.eq_nil_of_length_eq_zero hr.1
    rcases A with _ | ad
    · exact run_convert_bytes_nil (P := Try.prog) w 25 5 Try.underlying25 Try.underlying5 0 c 9 Try.underlying9
    · rw [run_convert_bytes_string w 25 9 5 _ 0 c Try.underlying25 Try.underlying5 Try.underlying9, run_bytesToString w ad 0 c [] (by simp [loadCells, loadCellsFrom])]
      rfl
  · obtain ⟨b, o, rfl, _, hc⟩ := hr.2 h0
    have h := run_convert_bytes_arg (P := Try.prog) w 25 5 Try.underlying25 Try.underlying5 b o n c (l.map fun x => (x.toNat : Int)) (by rw [List.length_map]; exact hr.1) (fun i hi => by
      have hl : i < l.length := by have := hr.1; omega
      rw [hc i hl]
      simp [List.getD, hl]) 9 Try.underlying9
    rw [h]
    congr 2
    unfold strOfNums
    rw [List.map_map]
    congr 2
    conv => rhs; rw [← List.map_id l]
    apply List.map_congr_left
    intro x _
    simp

theorem str_inj (l m : List UInt8) : ((⟨l.toArray⟩ : ByteArray) = ⟨m.toArray⟩) ↔ l = m := by
  constructor
  · intro h
    have := congrArg (fun b : ByteArray => b.data.toList) h
    simpa using this
  · rintro rfl; rfl

set_option maxHeartbeats 400000 in
theorem equal_any (A B : Option Addr) (n c n' c' : Nat) (l m : List UInt8) (w : World) (hr : Rd w none A n l) (hs : Rd w none B n' m) :
    Calls Try.prog 22 #[.slice A n c, .slice B n' c'] w fun e w' => e = .returned (.bool (decide (l = m))) ∧ w = w' := by
  have q1 := conv_rd w none A n c l hr
  have q2 := conv_rd w none B n' c' m hs
  clear hr hs
  go_enter Try.func22, Try.ntmps22
  go_wp2
  go_ret
  exact ⟨ret_bool (by rw [Bool.eq_iff_iff]; simp), rfl⟩

/-! the reference's bytes of a number -/
set_option maxHeartbeats 400000 in
theorem refput_any (m : Nat) (w : World) (hm : m < 4294967296) :
    Calls Try.prog 21 #[.int .u64 (m : Int), .int .i64 4] w (GivesRow w 4 (Crc.le4 m)) := by
  obtain ⟨i0, hi, hz0, hz1, hz2⟩ := info_parts info5
  go_enter Try.func21, Try.ntmps21
  go_wp2
  go_loopw [0, 5, 6] (fun x v i wr => ∃ k : Nat, k ≤ 4 ∧ i = .int .i64 k ∧ x = .int .u64 ((m / 2 ^ (8 * k) : Nat) : Int) ∧ wr.ownsRow w.heap.size 5 1 v k (cs ((Crc.le4 m).take k)) ∧ w.grownBy wr none) (fun _ _ i _ => 4 - (intOf i).toNat)
  case atStart => exact ⟨0, by omega, rfl, by simp, World.ownsRow_nil _ _ _ _, gb_refl _ _⟩
  case round =>
    obtain ⟨k, hk, rfl, rfl, hO, hG⟩ := hrel
    have O2 := hide hO
    have G2 := hide hG
    clear hO hG
    have hq : m / 2 ^ (8 * k) ≤ 4294967295 := Nat.le_trans (Nat.div_le_self _ _) (by omega)
    have hx : Hid (m / 2 ^ (8 * (k + 1)) = m / 2 ^ (8 * k) / 256) := by
      show _ = _
      rw [Nat.mul_add, Nat.pow_add, ← Nat.div_div_eq_div_mul]
    by_cases hlt : k < 4
    · have hb : Hid (((m / 2 ^ (8 * k) : Nat) : Int) % 256 = ((UInt8.ofNat (m / 2 ^ (8 * k))).toNat : Int)) := by
        show _ = _
        rw [UInt8.toNat_ofNat']
        simp
      have ht : Hid ((Crc.le4 m).take (k + 1) = (Crc.le4 m).take k ++ [UInt8.ofNat (m / 2 ^ (8 * k))]) := le4_take m k hlt
      generalize m / 2 ^ (8 * k) = q at *
      go_wp2_with (at_builtin; refine wpl_app _ rfl (.tmp 12) (.tmp 16) 25 rfl w.heap.size i0 Try.underlying25 hi hz0 hz1 hz2 _ k ((Crc.le4 m).take k) rfl (O2.out.alloc _) (some ⟨wr.heap.size, 0, none⟩) 1 1 none [UInt8.ofNat q] rfl (rd_one wr hb.out) (by omega) (by have := G2.out.size; simp; omega) ?_)
      intro v' w1 hown hgrow hlie
      have O3 := hide hown
      have G3 : Hid (w.grownBy w1 none) := gb_new (gb_alloc G2.out _) hgrow (fun g hg => .inl (O2.out.lt g hg).1)
      clear hown hgrow hlie
      go_wp2
      refine ⟨⟨k + 1, by omega, by go_num, ?_, ?_, G3.out⟩, by simp [intOf]; omega⟩
      · rw [hx.out]; go_num
      · rw [ht.out]
        exact O3.out
    · have h4 : k = 4 := by omega
      subst h4
      go_wp2
      go_ret
      exact GivesRow.mk_ O2.out G2.out
end Go.Proofs.Ytojlnbolfahmcaa
