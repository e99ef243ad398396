/-
  The contract of the reference Turned of chapter 5: the bytes with some bits turned, all within a run of 32.
  Conditions: lengths as the statements bound them; the place lies within the bits or at their end.
-/
import Derived.Test.YtojlnbolfahmcaaWe
import Derived.Deep.DeepCutAuto
namespace Go.Proofs.Ytojlnbolfahmcaa
open Go.RowKit

theorem own_set {w : World} {base g n c : Nat} {d : List UInt8} (h : w.ownsRow base 5 1 (.slice (some ⟨g, 0, none⟩) n c) n (cs d)) (i : Nat) (x : UInt8) :
    (w.setCell ⟨g, i, none⟩ (.int .u8 (x.toNat : Int))).ownsRow base 5 1 (.slice (some ⟨g, 0, none⟩) n c) n (cs (d.set i x)) := by
  refine ⟨by rw [cs_length, List.length_set, ← cs_length]; exact h.1, ?_⟩
  rcases h.2 with ⟨h0, _⟩ | ⟨g', cap, cur, hv, hb, hh, hnc, hm, hs, ht⟩
  · simp at h0
  · simp at hv
    obtain ⟨rfl, rfl⟩ := hv
    refine .inr ⟨g, c, cur.setIfInBounds i (.int .u8 (x.toNat : Int)), rfl, hb, heap_setCell_same w g i cur 5 _ hh, hnc, hm, by simpa using hs, ?_⟩
    rw [Array.toList_setIfInBounds, List.take_set, ht]
    simp [cs, List.map_set]
theorem own_free {w : World} {base g n c : Nat} {d : List UInt8} (h : w.ownsRow base 5 1 (.slice (some ⟨g, 0, none⟩) n c) n (cs d)) (i : Nat) : w.frozen? ⟨g, i, none⟩ = false := by
  rcases h.2 with ⟨h0, _⟩ | ⟨g', cap, cur, hv, hb, hh, _⟩
  · simp at h0
  · simp at hv
    obtain ⟨rfl, rfl⟩ := hv
    exact frozen_of_row w g i cur 5 hh

theorem own_addr {w : World} {base n c : Nat} {A : Option Addr} {d : List UInt8} (h : w.ownsRow base 5 1 (.slice A n c) n (cs d)) (hn : 0 < n) : ∃ g, A = some ⟨g, 0, none⟩ := by
  rcases h.2 with ⟨_, h0⟩ | ⟨g, cap, cur, hv, _⟩
  · omega
  · simp at hv
    exact ⟨g, hv.1⟩

/-- Bytes of which some bits have been turned, all within the first k from a place on. -/
def Tur (l : List UInt8) (at_ k : Nat) (d : List UInt8) : Prop := d.length = l.length ∧ ∃ p, p < 2 ^ k ∧ Crc.val d = Crc.val l ^^^ (2 ^ at_ * p)
theorem Tur.zero (l : List UInt8) (at_ : Nat) : Tur l at_ 0 l := ⟨rfl, 0, by decide, by simp⟩
theorem Tur.same {l d : List UInt8} {at_ k : Nat} (h : Tur l at_ k d) : Tur l at_ (k + 1) d := by
  obtain ⟨h1, p, hp, hv⟩ := h
  exact ⟨h1, p, Nat.lt_of_lt_of_le hp (Nat.pow_le_pow_right (by decide) (by omega)), hv⟩
theorem Tur.turn {l d : List UInt8} {at_ k : Nat} (h : Tur l at_ k d) (hlt : at_ + k < 8 * d.length) :
    Tur l at_ (k + 1) (d.set ((at_ + k) / 8) (d.getD ((at_ + k) / 8) 0 ^^^ UInt8.ofNat (2 ^ ((at_ + k) % 8)))) := by
  obtain ⟨h1, p, hp, hv⟩ := h
  refine ⟨by rw [List.length_set]; exact h1, p ^^^ 2 ^ k, ?_, ?_⟩
  · exact Nat.xor_lt_two_pow (Nat.lt_of_lt_of_le hp (Nat.pow_le_pow_right (by decide) (by omega))) (Nat.pow_lt_pow_right (by decide) (by omega))
  · rw [Crc.val_set d _ _ (by omega) (Nat.mod_lt _ (by decide)), hv, Nat.xor_assoc]
    congr 1
    have e : 8 * ((at_ + k) / 8) + (at_ + k) % 8 = at_ + k := by omega
    rw [e, Nat.pow_add]
    apply Nat.eq_of_testBit_eq
    intro i
    simp only [Nat.testBit_xor, Nat.testBit_two_pow_mul]
    by_cases hi : at_ ≤ i <;> simp [hi]

/-- A slice in memory of the call's own that reads as such bytes. -/
def GivesTur (w : World) (n : Nat) (l : List UInt8) (at_ : Nat) (e : Ending) (w' : World) : Prop :=
  ∃ A c d, e = .returned (.slice A n c) ∧ n ≤ c ∧ Rd w' none A n d ∧ Tur l at_ 32 d ∧ w.grownBy w' none

theorem turn_int (x : UInt8) (r : Nat) : bits .xor .u8 (x.toNat : Int) (2 ^ r % 256) = ((x ^^^ UInt8.ofNat (2 ^ r)).toNat : Int) := by
  have hx := x.toNat_lt
  have e : ((2 : Int) ^ r % 256) = ((2 ^ r % 256 : Nat) : Int) := by simp
  rw [e, u8_xor_nat _ _ hx (Nat.mod_lt _ (by decide)), UInt8.toNat_xor, UInt8.toNat_ofNat']

set_option maxHeartbeats 1000000 in
theorem turned_any (A : Option Addr) (n c : Nat) (l : List UInt8) (at_ pat : Nat) (w : World) (hr : Rd w none A n l) (hn : n ≤ 1000000) (hat : at_ ≤ 8 * n) :
    Calls Try.prog 18 #[.slice A n c, .int .i64 (at_ : Int), .int .u32 (pat : Int)] w (GivesTur w n l at_) := by
  obtain ⟨i0, hi, hz0, hz1, hz2⟩ := info_parts info5
  have R1 := hide hr
  have L1 := hide hr.1
  clear hr
  go_enter Try.func18, Try.ntmps18
  go_wp2_with (at_builtin; refine wpl_app _ rfl (.tmp 10) (.tmp 11) 25 rfl w.heap.size i0 Try.underlying25 hi hz0 hz1 hz2 _ 0 [] rfl (World.ownsRow_made w #[] 0 (Nat.le_refl _) (Nat.zero_le _) rfl) A n c none l rfl (R1.out.grown (gb_alloc (gb_refl _ _) _) (.inl rfl)) (by omega) (by simp) ?_)
  intro v1 w1 hown hgrow _
  have hO : w1.ownsRow w.heap.size 5 1 v1 n (cs l) := by simpa using hown
  obtain ⟨A1, c1, rfl, hc1, hlt1⟩ := own_form hO
  have O1 := hide hO
  have G1 : Hid (w.grownBy w1 none) := gb_new (gb_alloc (gb_refl _ _) _) hgrow (by intro g hg; simp [Value.ownBlock] at hg; omega)
  clear hown hgrow hlt1 hO
  go_wp2
  go_loopw [8] (fun i wr => ∃ (k : Nat) (d : List UInt8), k ≤ 32 ∧ i = .int .i64 k ∧ Tur l at_ k d ∧ wr.ownsRow w.heap.size 5 1 (.slice A1 n c1) n (cs d) ∧ w.grownBy wr none) (fun i _ => 32 - (intOf i).toNat)
  case atStart => exact ⟨0, l, by omega, rfl, Tur.zero l at_, by simpa using O1.out, G1.out⟩
  case round =>
    obtain ⟨k, d, hk, rfl, hT, hO, hG⟩ := hrel
    have T2 := hide hT
    have O2 := hide hO
    have G2 := hide hG
    clear hT hO hG O1 G1
    by_cases hlt : k < 32
    · go_wp2_with fail
      · have hlt8 : at_ + k < 8 * n := by omega
        obtain ⟨g, rfl⟩ := own_addr O2.out (by omega)
        have hdl : d.length = n := (own_rd O2.out).1
        have hT := hide (T2.out.turn (by rw [hdl]; exact hlt8))
        have hP : ((at_ : Int) + (k : Int)) = ((at_ + k : Nat) : Int) := by omega
        rw [hP]
        have hil : (at_ + k) / 8 < d.length := by omega
        have hc : wr.cell? ⟨g, (at_ + k) / 8, none⟩ = some (.int .u8 ((d.getD ((at_ + k) / 8) 0).toNat : Int)) := by
          obtain ⟨b, o, hA, hl, hc⟩ := (own_rd O2.out).at_ (show (at_ + k) / 8 < n by omega)
          simp at hA
          obtain ⟨rfl, rfl⟩ := hA
          rw [Nat.zero_add] at hc
          rw [hc]
          simp [List.getD, hl]
        have hf := own_free O2.out ((at_ + k) / 8)
        have hi0 : (0 : Int) ≤ (((at_ + k) / 8 : Nat) : Int) := by omega
        have hi1 : (((at_ + k) / 8 : Nat) : Int) < (n : Int) := by omega
        have hq : ((at_ + k : Nat) : Int).tdiv 8 = (((at_ + k) / 8 : Nat) : Int) := by rw [Int.tdiv_eq_ediv_of_nonneg (by omega)]; omega
        have hm : ((at_ + k : Nat) : Int).tmod 8 = (((at_ + k) % 8 : Nat) : Int) := by rw [Int.tmod_eq_emod_of_nonneg (by omega)]; omega
        have hw1 : IntKind.i64.wrap (((at_ + k) / 8 : Nat) : Int) = (((at_ + k) / 8 : Nat) : Int) := IntWalk.i64_in _ (by omega)
        have hr8 : (at_ + k) % 8 < 8 := Nat.mod_lt _ (by decide)
        generalize hx : d.getD ((at_ + k) / 8) 0 = x at *
        have Hx := hide hx
        clear hx hP hlt8
        generalize (at_ + k) / 8 = i at *
        generalize (at_ + k) % 8 = r at *
        generalize at_ + k = P at *
        go_region
        go_wp2_with fail
        rw [turn_int x r]
        refine ⟨⟨k + 1, _, by omega, by go_num, hT.out, ?_, gb_drew (gb_set G2.out (.inl (O2.out.lt g rfl).1) _)⟩, by simp [intOf]; omega⟩
        exact own_set O2.out i (x ^^^ UInt8.ofNat (2 ^ r))
      · refine ⟨⟨k + 1, d, by omega, by go_num, T2.out.same, O2.out, G2.out⟩, by simp [intOf]; omega⟩
      · refine ⟨⟨k + 1, d, by omega, by go_num, T2.out.same, O2.out, G2.out⟩, by simp [intOf]; omega⟩
    · have h0 : k = 32 := by omega
      subst h0
      go_wp2_with fail
      go_ret
      exact ⟨A1, c1, d, rfl, hc1, own_rd O2.out, T2.out, G2.out⟩
end Go.Proofs.Ytojlnbolfahmcaa
