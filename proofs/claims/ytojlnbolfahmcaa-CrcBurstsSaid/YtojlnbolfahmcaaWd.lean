/-
  The contract of the method Write of crc.Hash: the register goes on by the bytes of all parts, in their order.
  Conditions: lengths as the statements bound them.
-/
import Derived.Test.YtojlnbolfahmcaaWa
import Derived.Test.YtojlnbolfahmcaaWc
import Derived.Deep.DeepCutAuto
namespace Go.Proofs.Ytojlnbolfahmcaa
open Go.RowKit

theorem nib_int (y z : Nat) (hy : y < 4294967296) (ht : Crc.tab z < 4294967296) (h : Crc.nib y = Crc.tab z ^^^ (y / 16)) : bits .xor .u32 (Crc.tab z : Int) ((y : Int) / 16) = (Crc.nib y : Int) := by
  rw [show ((y : Int) / 16) = ((y / 16 : Nat) : Int) from by omega, u32_xor_nat _ _ ht (by omega), h]

set_option maxHeartbeats 1000000 in
theorem write_any (h r : Nat) (AA : Option Addr) (k cc : Nat) (ps : List (List UInt8)) (w : World) (hB : Blk w h 41 #[.int .u32 (r : Int)]) (hr : r < 4294967296)
    (hp : RdS w (some h) AA k ps) (hk : k ≤ 1000000) (hps : ∀ p ∈ ps, p.length ≤ 1000000) :
    Calls Try.prog 9 #[.pointer (some ⟨h, 0, none⟩), .slice AA k cc] w fun e w' => e = .returned (.tuple #[]) ∧ Blk w' h 41 #[.int .u32 (Crc.reg r ps.flatten : Int)] ∧ w.grownBy w' (some h) := by
  have B1 := hide hB
  have R1 := hide hp
  have P1 := hide hps
  have hlt := hB.lt
  clear hB hp hps
  go_enter Try.func9, Try.ntmps9
  go_wp2_with fail
  refine (table_any w).mono ?_
  rintro e w1 ⟨rfl, hgrow⟩
  have G1 := hide (gb_any hgrow (some h))
  have G0 := hide hgrow
  have hsz := hgrow.size
  clear hgrow
  have BT0 := hide (Blk.new w1 42 (tarr 0))
  go_wp2_with (refine wpList_store_row rfl 42 (.tmp 4) (.tmp 9) rfl w1.heap.size (tarr 16) rfl rfl 42 (tarr 0) BT0.out sz42 rfl tarr_one ?_)
  rw [tarr_zero]
  obtain ⟨w2, hw2⟩ : ∃ w2, w2 = (w1.alloc (.cells (tarr 0) 42)).setRow w1.heap.size (tarr 16) := ⟨_, rfl⟩
  have G2 := hide (p := w.grownBy w2 (some h)) (by rw [hw2]; exact gb_setRow (gb_alloc G1.out _) (.inl hsz) _)
  have BT := hide (p := Blk w2 w1.heap.size 42 (tarr 16)) (by rw [hw2]; exact setRow_heap _ _ _ _ _ _ BT0.out)
  have BH := hide (p := Blk w2 h 41 #[.int .u32 (r : Int)]) (by
    rw [hw2]
    have h1 : Blk w1 h 41 #[.int .u32 (r : Int)] := by
      have h2 := G0.out
      exact B1.out.grown h2 (by simp)
    have h3 : Blk (w1.alloc (.cells (tarr 0) 42)) h 41 #[.int .u32 (r : Int)] := h1.grown (World.grownBy_alloc w1 _ none) (by simp)
    exact (setRow_other _ _ _ _ (by omega)).trans h3)
  rw [← hw2]
  clear hw2 BT0 B1 G1 G0
  obtain ⟨T, hT⟩ : ∃ T, T = w1.heap.size := ⟨_, rfl⟩
  rw [← hT] at hsz BT ⊢
  clear hT
  have hTh : T ≠ h := by omega
  go_loopw [12] (fun i wr => ∃ j : Nat, j ≤ k ∧ i = .int .i64 j ∧ Blk wr h 41 #[.int .u32 (Crc.reg r (ps.take j).flatten : Int)] ∧ Blk wr T 42 (tarr 16) ∧ w.grownBy wr (some h)) (fun i _ => k - (intOf i).toNat)
  case atStart => exact ⟨0, by omega, rfl, BH.out, BT.out, G2.out⟩
  case round =>
    obtain ⟨j, hj, rfl, hBH, hBT, hG⟩ := hrel
    have B3 := hide hBH
    have T3 := hide hBT
    have G3 := hide hG
    have hR : Crc.reg r (ps.take j).flatten < 4294967296 := Crc.reg_lt _ hr
    clear hBH hBT hG BH BT G2
    by_cases hlt : j < k
    · obtain ⟨b, o, rfl, hbh, hl, A', n', c', hcw, hnc, hp⟩ := R1.out.at_ hlt
      have hc0 := G3.out.cell hcw hbh
      clear hcw hbh
      have hpl : ps[j].length ≤ 1000000 := P1.out _ (List.getElem_mem hl)
      have hs : Hid (Crc.reg r (ps.take (j + 1)).flatten = Crc.reg (Crc.reg r (ps.take j).flatten) ps[j]) := by
        show _ = _
        rw [List.take_succ_eq_append_getElem hl, List.flatten_append, Crc.reg_append]
        simp
      have hn' : n' ≤ 1000000 := by rw [← hp.1]; exact hpl
      clear hpl
      have R3 := hide hp
      clear hp
      generalize ps[j] = p at *
      generalize Crc.reg r (ps.take j).flatten = R at *
      go_wp2
      clear hc0
      obtain ⟨wo, hwo⟩ : ∃ wo : World, wo = wr := ⟨_, rfl⟩
      rw [← hwo] at B3 T3 G3 ⊢
      clear hwo
      go_loopw [18] (fun i wr => ∃ q : Nat, q ≤ n' ∧ i = .int .i64 q ∧ Blk wr h 41 #[.int .u32 (Crc.reg R (p.take q) : Int)] ∧ Blk wr T 42 (tarr 16) ∧ w.grownBy wr (some h)) (fun i _ => n' - (intOf i).toNat)
      case atStart => exact ⟨0, by omega, rfl, B3.out, T3.out, G3.out⟩
      case round =>
        obtain ⟨q, hq, rfl, hBH, hBT, hG⟩ := hrel
        have B4 := hide hBH
        have T4 := hide hBT
        have G4 := hide hG
        have hQ : Crc.reg R (p.take q) < 4294967296 := Crc.reg_lt _ hR
        clear hBH hBT hG B3 T3 G3
        by_cases hlq : q < n'
        · obtain ⟨b', o', rfl, hl', hcx⟩ := (R3.out.grown G4.out (.inr rfl)).at_ hlq
          have hsq : Hid (Crc.reg R (p.take (q + 1)) = Crc.byte (Crc.reg R (p.take q)) p[q].toNat) := by
            show _ = _
            rw [List.take_succ_eq_append_getElem hl', Crc.reg_snoc]
          have hx : p[q].toNat < 256 := p[q].toNat_lt
          generalize p[q].toNat = x at *
          generalize Crc.reg R (p.take q) = S at *
          have hc1 := B4.out.cell 0
          have hf1 := B4.out.free 0
          simp only [List.getElem?_toArray, List.getElem?_cons_zero] at hc1
          go_upto_region 8 with fail
          obtain ⟨y, hy, hyl⟩ : ∃ y : Nat, bits .xor .u32 (S : Int) (x : Int) = (y : Int) ∧ y < 4294967296 := ⟨S ^^^ x, u32_xor_nat _ _ hQ (by omega), Nat.xor_lt_two_pow (n := 32) hQ (by omega)⟩
          rw [hy]
          have Y1 := hide hy
          obtain ⟨wx, hwx⟩ : ∃ wx, wx = wr.setCell ⟨h, 0, none⟩ (.int .u32 (y : Int)) := ⟨_, rfl⟩
          have B5 := hide (p := Blk wx h 41 #[.int .u32 (y : Int)]) (by rw [hwx]; exact B4.out.set_ 0 _)
          have T5 := hide (p := Blk wx T 42 (tarr 16)) (by rw [hwx]; exact T4.out.far hTh _)
          have G5 := hide (p := w.grownBy wx (some h)) (by rw [hwx]; exact gb_set G4.out (.inr rfl) _)
          rw [← hwx]
          clear hwx hy hc1 hf1 hcx B4 T4 G4
          have hc1 := B5.out.cell 0
          have hf1 := B5.out.free 0
          simp only [List.getElem?_toArray, List.getElem?_cons_zero] at hc1
          have hct := T5.out.cell (y % 16)
          rw [tarr_get 16 (y % 16) (by omega), if_pos (by omega)] at hct
          have hz : y % 16 < 16 := Nat.mod_lt _ (by decide)
          have hz0 : (0 : Int) ≤ ((y % 16 : Nat) : Int) := Int.natCast_nonneg _
          have hz1 : ((y % 16 : Nat) : Int) < 16 := by omega
          have hm : (y : Int).tmod 16 = ((y % 16 : Nat) : Int) := by rw [Int.tmod_eq_emod_of_nonneg (by omega)]; omega
          have ht : Crc.tab (y % 16) < 4294967296 := Crc.tab_lt hz
          have Y2 : Hid (Crc.nib y = Crc.tab (y % 16) ^^^ (y / 16)) := rfl
          generalize y % 16 = z at *
          go_region
          go_upto_region 9 with fail
          have hy2 := nib_int y z hyl ht Y2.out
          have Y3 : Hid (Crc.nib (Crc.nib y) = Crc.byte S x) := by
            show _ = _
            rw [← Crc.nib_nib S x hx]
            congr 2
            have h1 := Y1.out
            rw [u32_xor_nat _ _ hQ (by omega)] at h1
            omega
          have hyl2 : Crc.nib y < 4294967296 := Crc.nib_lt hyl
          rw [hy2]
          generalize Crc.nib y = y2 at *
          obtain ⟨wz, hwz⟩ : ∃ wz, wz = (wx.setCell ⟨h, 0, none⟩ (.int .u32 (y2 : Int))).drew := ⟨_, rfl⟩
          have B6 := hide (p := Blk wz h 41 #[.int .u32 (y2 : Int)]) (by rw [hwz]; exact B5.out.set_ 0 _)
          have T6 := hide (p := Blk wz T 42 (tarr 16)) (by rw [hwz]; exact T5.out.far hTh _)
          have G6 := hide (p := w.grownBy wz (some h)) (by rw [hwz]; exact gb_drew (gb_set G5.out (.inr rfl) _))
          rw [← hwz]
          clear hwz hy2 hc1 hf1 hct hz hz0 hz1 hm ht Y1 Y2 hyl B5 T5 G5
          have hc1 := B6.out.cell 0
          have hf1 := B6.out.free 0
          simp only [List.getElem?_toArray, List.getElem?_cons_zero] at hc1
          have hct := T6.out.cell (y2 % 16)
          rw [tarr_get 16 (y2 % 16) (by omega), if_pos (by omega)] at hct
          have hz : y2 % 16 < 16 := Nat.mod_lt _ (by decide)
          have hz0 : (0 : Int) ≤ ((y2 % 16 : Nat) : Int) := Int.natCast_nonneg _
          have hz1 : ((y2 % 16 : Nat) : Int) < 16 := by omega
          have hm : (y2 : Int).tmod 16 = ((y2 % 16 : Nat) : Int) := by rw [Int.tmod_eq_emod_of_nonneg (by omega)]; omega
          have ht : Crc.tab (y2 % 16) < 4294967296 := Crc.tab_lt hz
          have Y2 : Hid (Crc.nib y2 = Crc.tab (y2 % 16) ^^^ (y2 / 16)) := rfl
          generalize y2 % 16 = z2 at *
          go_region
          go_wp2
          have hy3 := nib_int y2 z2 hyl2 ht Y2.out
          rw [Y3.out] at hy3
          refine ⟨⟨q + 1, by omega, by go_num, ?_, T6.out.far hTh _, gb_drew (gb_set G6.out (.inr rfl) _)⟩, by simp [intOf]; omega⟩
          rw [hsq.out, ← hy3]
          exact B6.out.set_ 0 _
        · have h0 : q = n' := by omega
          subst h0
          go_wp2
          refine ⟨⟨j + 1, by omega, by go_num, ?_, T4.out, G4.out⟩, by simp [intOf]; omega⟩
          rw [hs.out]
          have h1 := B4.out
          rw [List.take_of_length_le (by rw [R3.out.1]; exact Nat.le_refl _)] at h1
          exact h1
    · have h0 : j = k := by omega
      subst h0
      go_wp2
      go_end0
      refine ⟨rfl, ?_, G3.out⟩
      have h1 := B3.out
      rw [List.take_of_length_le (by rw [R1.out.1]; exact Nat.le_refl _)] at h1
      exact h1
end Go.Proofs.Ytojlnbolfahmcaa
