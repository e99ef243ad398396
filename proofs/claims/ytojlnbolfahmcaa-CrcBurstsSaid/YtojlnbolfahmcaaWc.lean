/-
  The contracts of the reference Sum and Put of chapter 5: what each returns and what becomes of memory.
  Conditions: lengths as the statements bound them.
-/
import Derived.Test.YtojlnbolfahmcaaWb
namespace Go.Proofs.Ytojlnbolfahmcaa
open Go.RowKit

theorem bit_unlike (r x q : Nat) (hr : r < 4294967296) (h : ((r : Int) % 2 != (x : Int) / 2 ^ q % 2) = true) : (Crc.bit r (x / 2 ^ q % 2) : Int) = bits .xor .u32 ((r : Int) / 2) 3988292384 := by
  have e : ((x : Int) / 2 ^ q % 2) = ((x / 2 ^ q % 2 : Nat) : Int) := by simp
  rw [e, bne_iff_ne] at h
  rw [show ((r : Int) / 2) = ((r / 2 : Nat) : Int) from by omega, show (3988292384 : Int) = ((3988292384 : Nat) : Int) from rfl, u32_xor_nat _ _ (by omega) (by decide)]
  unfold Crc.bit
  rw [if_neg (by omega)]
  rfl
theorem bit_like (r x q : Nat) (h : ((r : Int) % 2 != (x : Int) / 2 ^ q % 2) = false) : (Crc.bit r (x / 2 ^ q % 2) : Int) = (r : Int) / 2 := by
  have e : ((x : Int) / 2 ^ q % 2) = ((x / 2 ^ q % 2 : Nat) : Int) := by simp
  rw [e, bne_eq_false_iff_eq] at h
  unfold Crc.bit
  rw [if_pos (by omega)]
  omega

set_option maxHeartbeats 400000 in
theorem refsum_any (A : Option Addr) (n c : Nat) (l : List UInt8) (w : World) (hr : Rd w none A n l) (hn : n ≤ 1000000) :
    Calls Try.prog 11 #[.slice A n c] w fun e w' => e = .returned (.int .u32 (Crc.sum l : Int)) ∧ w = w' := by
  have R1 := hide hr
  clear hr
  go_enter Try.func11, Try.ntmps11
  go_wp2
  go_loop [3, 4] (fun r i => ∃ j : Nat, j ≤ n ∧ i = .int .i64 j ∧ r = .int .u32 (Crc.reg 4294967295 (l.take j) : Int)) (fun _ i => n - (intOf i).toNat)
  case atStart => exact ⟨0, by omega, rfl, rfl⟩
  case round =>
    obtain ⟨j, hj, rfl, rfl⟩ := hrel
    have hR : Crc.reg 4294967295 (l.take j) < 4294967296 := Crc.reg_lt _ (by decide)
    by_cases hlt : j < n
    · obtain ⟨b, o, rfl, hl, hc⟩ := R1.out.at_ hlt
      have hs : Hid (Crc.reg 4294967295 (l.take (j + 1)) = Crc.byte (Crc.reg 4294967295 (l.take j)) l[j].toNat) := by
        show _ = _
        rw [List.take_succ_eq_append_getElem hl, Crc.reg_snoc]
      have hx : l[j].toNat < 256 := l[j].toNat_lt
      generalize l[j].toNat = x at *
      generalize Crc.reg 4294967295 (l.take j) = R at *
      go_wp2
      go_loop [3, 5] (fun r i => ∃ q : Nat, q ≤ 8 ∧ i = .int .i64 q ∧ r = .int .u32 (Crc.bits x q R : Int)) (fun _ i => 8 - (intOf i).toNat)
      case atStart => exact ⟨0, by omega, rfl, rfl⟩
      case round =>
        obtain ⟨q, hq, rfl, rfl⟩ := hrel
        have hb : Crc.bits x q R < 4294967296 := Crc.bits_lt x q hR
        have hn : Hid (Crc.bits x (q + 1) R = Crc.bit (Crc.bits x q R) (x / 2 ^ q % 2)) := rfl
        generalize hrr : Crc.bits x q R = r at *
        have Hr := hide hrr
        clear hrr
        by_cases hq8 : q < 8
        · go_wp2
          · refine ⟨⟨q + 1, by omega, by go_num, ?_⟩, by simp [intOf]; omega⟩
            rw [hn.out, bit_unlike r x q hb (by assumption)]
          · refine ⟨⟨q + 1, by omega, by go_num, ?_⟩, by simp [intOf]; omega⟩
            rw [hn.out, bit_like r x q (by assumption)]
        · have h8 : q = 8 := by omega
          subst h8
          go_wp2
          refine ⟨⟨j + 1, by omega, by go_num, ?_⟩, by simp [intOf]; omega⟩
          rw [hs.out, ← Hr.out]
          rfl
    · have h0 : j = n := by omega
      subst h0
      go_wp2
      go_ret
      refine ⟨ret_int ?_, rfl⟩
      rw [List.take_of_length_le (by rw [R1.out.1]; exact Nat.le_refl _)] at hR ⊢
      unfold Crc.sum
      omega

set_option maxHeartbeats 400000 in
theorem refPut_any (A : Option Addr) (n c : Nat) (l : List UInt8) (w : World) (hr : Rd w none A n l) (hn : n ≤ 1000000) :
    Calls Try.prog 15 #[.slice A n c] w (GivesRow w (n + 4) (Crc.put l)) := by
  obtain ⟨i0, hi, hz0, hz1, hz2⟩ := info_parts info5
  have R1 := hide hr
  have hsl := Crc.sum_lt l
  clear hr
  go_enter Try.func15, Try.ntmps15
  go_wp2_with (at_builtin; refine wpl_app _ rfl (.tmp 3) (.tmp 4) 25 rfl w.heap.size i0 Try.underlying25 hi hz0 hz1 hz2 _ 0 [] rfl (World.ownsRow_made w #[] 0 (Nat.le_refl _) (Nat.zero_le _) rfl) A n c none l rfl (R1.out.grown (gb_alloc (gb_refl _ _) _) (.inl rfl)) (by omega) (by simp) ?_)
  intro v1 w1 hown hgrow _
  obtain ⟨A1, c1, rfl, hc1, hlt1⟩ := own_form (by simpa using hown)
  have O1 := hide (p := w1.ownsRow w.heap.size 5 1 (.slice A1 n c1) n (cs l)) (by simpa using hown)
  have G1 : Hid (w.grownBy w1 none) := gb_new (gb_alloc (gb_refl _ _) _) hgrow (by intro g hg; simp [Value.ownBlock] at hg; omega)
  clear hown hgrow hlt1
  go_wp2_with fail
  refine (refsum_any A n c l w1 (R1.out.grown G1.out (.inl rfl)) hn).mono ?_
  rintro e w2 ⟨rfl, rfl⟩
  go_wp2_with fail
  refine (refput_any (Crc.sum l) w1 hsl).mono ?_
  rintro e w2 ⟨A2, c2, rfl, hc2, hown, hgrow⟩
  have O2 := hide hown
  have G2 := hide hgrow
  clear hown hgrow
  go_wp2_with (at_builtin; refine wpl_app _ rfl (.tmp 5) (.tmp 9) 25 rfl w.heap.size i0 Try.underlying25 hi hz0 hz1 hz2 _ n l rfl (O1.out.kept G2.out (by cases (Value.slice A1 n c1).ownBlock <;> simp)) A2 4 c2 none (Crc.le4 (Crc.sum l)) rfl (own_rd O2.out) (by omega) (by have := G1.out.size; have := G2.out.size; omega) ?_)
  intro v3 w3 hown hgrow _
  have O3 := hide hown
  have G3 : Hid (w.grownBy w3 none) := gb_new (gb_trans G1.out G2.out) hgrow (fun g hg => .inl (O1.out.lt g hg).1)
  clear hown hgrow
  go_wp2
  go_ret
  exact GivesRow.mk_ O3.out G3.out
end Go.Proofs.Ytojlnbolfahmcaa
