/-
  The walk of corduroylaw05.CrcSums over its callees by their contracts.
  Conditions: lengths as the statements bound them.
-/
import Derived.Test.YtojlnbolfahmcaaWg
namespace Go.Proofs.Ytojlnbolfahmcaa
open Go.RowKit

theorem rds_row (w : World) {row : Option Nat} {A : Option Addr} {n c : Nat} {l : List UInt8} (hr : Rd w row A n l) (hc : n ≤ c) (hrow : some w.heap.size ≠ row) :
    RdS (w.alloc (.cells #[.slice A n c] 25)) row (some ⟨w.heap.size, 0, none⟩) 1 [l] := by
  refine ⟨rfl, fun _ => ⟨w.heap.size, 0, rfl, hrow, fun i hi => ?_⟩⟩
  have h0 : i = 0 := by simp at hi; omega
  subst h0
  exact ⟨A, n, c, (Blk.new w 25 #[.slice A n c]).cell 0, hc, hr.grown (World.grownBy_alloc w _ none) (.inl rfl)⟩

theorem sum_def (l : List UInt8) : 4294967295 - Crc.reg 4294967295 l = Crc.sum l := rfl

theorem flatten_le (ps : List (List UInt8)) (n : Nat) (h : ∀ p ∈ ps, p.length ≤ n) : ps.flatten.length ≤ n * ps.length := by
  induction ps with
  | nil => simp
  | cons p ps ih =>
    have h1 := h p (by simp)
    have h2 := ih (fun q hq => h q (by simp [hq]))
    simp only [List.flatten_cons, List.length_append, List.length_cons, Nat.mul_add]
    omega

set_option maxHeartbeats 1000000 in
theorem walk3 (AA : Option Addr) (k cc : Nat) (ps : List (List UInt8)) (w : World) (hp : RdS w none AA k ps) (hk : k ≤ maxLen) (hlens : ∀ p ∈ ps, p.length ≤ maxLen) :
    Calls Try.prog 3 #[.slice AA k cc] w fun e w' => e = .returned (.bool true) ∧ Below w.heap.size w w' := by
  unfold maxLen at hk
  by_cases h12 : k ≤ 12
  · obtain ⟨i0, hi, hz0, hz1, hz2⟩ := info_parts info5
    have R1 := hide (hp.apart (Nat.le_refl _))
    have P1 := hide hlens
    clear hp hlens
    go_enter Try.func3, Try.ntmps3
    go_wp2_with fail
    refine (new_any w).mono ?_
    rintro e w1 ⟨rfl, hw1⟩
    have B1 := hide (p := Blk w1 w.heap.size 41 #[.int .u32 (4294967295 : Nat)]) (by rw [← hw1]; exact Blk.new _ _ _)
    have G1 := hide (p := w.grownBy w1 none) (by rw [← hw1]; exact gb_alloc (gb_refl _ _) _)
    have S1 : w1.heap.size = w.heap.size + 1 := by rw [← hw1]; simp
    have S2 := hide S1
    clear hw1 S1
    obtain ⟨h, hh⟩ : ∃ h, h = w.heap.size := ⟨_, rfl⟩
    rw [← hh] at B1 R1 S2 ⊢
    have Hh := hide hh
    clear hh
    go_wp2_with fail
    go_loopw [4, 5] (fun v i wr => ∃ j : Nat, j ≤ k ∧ i = .int .i64 j ∧ (∀ p ∈ ps.take j, p.length ≤ 300) ∧ wr.ownsRow (h + 1) 5 1 v (ps.take j).flatten.length (cs (ps.take j).flatten) ∧
      Blk wr h 41 #[.int .u32 (Crc.reg 4294967295 (ps.take j).flatten : Int)] ∧ w.grownBy wr none) (fun _ i _ => k - (intOf i).toNat)
    case atStart => exact ⟨0, by omega, rfl, by simp, World.ownsRow_nil _ _ _ _, B1.out, G1.out⟩
    case round =>
      obtain ⟨j, hj, rfl, hle, hO, hB, hG⟩ := hrel
      have hfl : (ps.take j).flatten.length ≤ 3600 := by
        have := flatten_le (ps.take j) 300 hle
        have h2 : (ps.take j).length ≤ 12 := by rw [List.length_take]; omega
        have h3 : 300 * (ps.take j).length ≤ 300 * 12 := Nat.mul_le_mul_left _ h2
        omega
      have L2 := hide hle
      have O2 := hide hO
      have B2 := hide hB
      have G2 := hide hG
      clear hle hO hB hG B1 G1
      by_cases hlt : j < k
      · obtain ⟨b, o, rfl, hbh, hl, A', n', c', hcW, hnc, hp⟩ := R1.out.at_ hlt
        have hcw := G2.out.cell hcW (by simp)
        have C1 := hide hcW
        clear hcW
        have hn' : n' ≤ 9223372036854775807 := by
          have := P1.out _ (List.getElem_mem hl)
          rw [hp.1] at this
          unfold maxLen at this
          exact this
        have R3 := hide hp
        have hs : Hid ((ps.take (j + 1)).flatten = (ps.take j).flatten ++ ps[j]) := by
          show _ = _
          rw [List.take_succ_eq_append_getElem hl, List.flatten_append]
          simp
        have hps : Hid (∀ p ∈ ps.take (j + 1), p = ps[j] ∨ p ∈ ps.take j) := by
          show ∀ p ∈ ps.take (j + 1), p = ps[j] ∨ p ∈ ps.take j
          rw [List.take_succ_eq_append_getElem hl]
          intro p hp
          rcases List.mem_append.1 hp with hp | hp
          · exact .inr hp
          · exact .inl (by simpa using hp)
        clear hp hbh
        generalize ps[j] = p at *
        generalize (ps.take j).flatten = F at *
        by_cases h300 : n' ≤ 300
        · go_wp2_with (at_builtin; refine wpl_app _ rfl (.tmp 24) (.tmp 28) 25 rfl (h + 1) i0 Try.underlying25 hi hz0 hz1 hz2 _ F.length F rfl O2.out A' n' c' (some h) p rfl (R3.out.grown G2.out (.inl rfl)) (by omega) (by have := B2.out.lt; omega) ?_)
          intro v1 w1 hown hgrow hlie
          clear hlie
          obtain ⟨A1, c1, rfl, hc1, _⟩ := own_form (l := F ++ p) hown
          have O3 := hide hown
          have G3 := hide (p := w.grownBy w1 none) (gb_new G2.out hgrow (fun g hg => .inl (by have := (O2.out.lt g hg).1; have := Hh.out; omega)))
          have B3 := hide (p := Blk w1 h 41 #[.int .u32 (Crc.reg 4294967295 F : Int)]) (B2.out.grown hgrow (by intro e; have := (O2.out.lt h e.symm).1; omega))
          have hcw1 : w1.cell? ⟨b, o + j, none⟩ = some (.slice A' n' c') := G3.out.cell C1.out (by simp)
          clear hown hgrow hcw O2 B2 G2
          go_wp2_with fail
          refine (write_any h (Crc.reg 4294967295 F) _ 1 1 [p] _ (B3.out.grown (World.grownBy_alloc w1 _ none) (by simp)) (Crc.reg_lt _ (by decide)) (rds_row w1 (R3.out.grown G3.out (.inl rfl)) hnc (by have := B3.out.lt; simp; omega)) (by omega) (by simp; rw [R3.out.1]; omega)).mono ?_
          rintro e w2 ⟨rfl, hB, hG⟩
          have hB2 : Blk w2 h 41 #[.int .u32 (Crc.reg 4294967295 (F ++ p) : Int)] := by
            rw [Crc.reg_append]
            simpa using hB
          have B4 := hide hB2
          have O4 := hide (p := w2.ownsRow (h + 1) 5 1 (.slice A1 (F.length + n') c1) (F.length + n') (cs (F ++ p))) ((O3.out.alloc _).kept hG (by
            rcases hv : (Value.slice A1 (F.length + n') c1).ownBlock with _ | g
            · exact .inl rfl
            · exact .inr (by intro e; injection e with e; have := (O3.out.lt g hv).1; omega)))
          have G4 := hide (p := w.grownBy w2 none) (gb_new (gb_alloc G3.out _) hG (fun g hg => .inl (by injection hg with hg; have := Hh.out; omega)))
          have hR : Crc.reg 4294967295 (F ++ p) < 4294967296 := Crc.reg_lt _ (by decide)
          clear hB hB2 hG O3 B3 G3 hcw1
          go_wp2_with fail
          refine (hsum_any w2 h _ hR (B4.out.cell 0)).mono ?_
          rintro e w3 ⟨rfl, rfl⟩
          rw [sum_def]
          go_wp2_with fail
          refine (refsum_any A1 _ c1 (F ++ p) w2 (own_rd O4.out) (by omega)).mono ?_
          rintro e w3 ⟨rfl, rfl⟩
          go_wp2_with fail
          refine ⟨⟨j + 1, by omega, by go_num, ?_, ?_, ?_, G4.out⟩, by simp [intOf]; omega⟩
          · intro q hq
            rcases hps.out q hq with rfl | hq
            · rw [R3.out.1]; exact h300
            · exact L2.out q hq
          · rw [hs.out, List.length_append, R3.out.1]
            exact O4.out
          · rw [hs.out]
            exact B4.out
        · have h300' : 300 < n' := by omega
          go_wp2_with fail
          go_ret
          exact ⟨rfl, gb_below G2.out⟩
      · have h0 : j = k := by omega
        subst h0
        have hps : ps.take j = ps := List.take_of_length_le (by rw [R1.out.1]; exact Nat.le_refl _)
        rw [hps] at O2 B2 L2 hfl
        obtain ⟨F, hF⟩ : ∃ F, F = ps.flatten := ⟨_, rfl⟩
        rw [← hF] at O2 B2 hfl
        have HF := hide hF
        clear hF
        obtain ⟨A1, c1, rfl, hc1, _⟩ := own_form O2.out
        have hR : Crc.reg 4294967295 F < 4294967296 := Crc.reg_lt _ (by decide)
        clear hps
        go_wp2_with fail
        refine (sum_any AA j cc ps wr ((R1.out.grown G2.out (.inl rfl)).loose) (by omega) (fun p hp => by have := L2.out p hp; omega)).mono ?_
        rintro e w2 ⟨rfl, hg⟩
        rw [← HF.out]
        have G3 := hide (gb_trans G2.out hg)
        have B3 := hide (B2.out.grown hg (by simp))
        have O3 := hide (O2.out.kept hg (by cases (Value.slice A1 F.length c1).ownBlock <;> simp))
        clear hg O2 B2 G2
        go_wp2_with fail
        refine (refsum_any A1 _ c1 F w2 (own_rd O3.out) (by omega)).mono ?_
        rintro e w3 ⟨rfl, rfl⟩
        go_wp2_with fail
        refine (hsum_any w2 h _ hR (B3.out.cell 0)).mono ?_
        rintro e w3 ⟨rfl, rfl⟩
        rw [sum_def]
        go_wp2_with fail
        refine (sum_one A1 _ c1 F w2 (own_rd O3.out) hc1 (by omega)).mono ?_
        rintro e w3 ⟨rfl, hg⟩
        have G4 := hide (gb_trans G3.out hg)
        clear hg
        go_wp2_with fail
        refine (awake_any w3).mono ?_
        rintro e w4 ⟨rfl, hg⟩
        have G5 := hide (gb_trans G4.out hg)
        clear hg
        go_wp2_with fail
        go_ret
        exact ⟨rfl, gb_below G5.out⟩
  · have h12' : 12 < k := by omega
    clear hp
    go_enter Try.func3, Try.ntmps3
    go_wp2_with fail
    go_ret
    exact ⟨rfl, Below.refl _ _⟩
end Go.Proofs.Ytojlnbolfahmcaa
