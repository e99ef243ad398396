/-
  The walk of corduroylaw05.CrcLinear over its callees by their contracts.
  Conditions: lengths as the statements bound them.
-/
import Derived.Test.YtojlnbolfahmcaaSteps
import Derived.WalkLawsBesides
import Derived.Deep.RegionLaw
import Derived.Deep.DeepCutAuto
namespace Go.Proofs.Ytojlnbolfahmcaa
open Go.RowKit

theorem step_app {P : Program} (w : World) {ops : Array Oper} {o : Oper} {a : Act} {K : Act → World → Prop} {Q : Exit → Act → World → Prop} {E : Prop} (hgd : o.guard = none) (s x : Operand) (t : TypeId)
    (ho : o.op = .call { callee := .builtin .append, args := #[s, x], argTypes := #[t, t] })
    (base : Nat) (i : TypeInfo) (ht : P.underlying t = some (.slice 5)) (hi : P.info? 5 = some i) (hz : i.zero = some (.int .u8 0)) (hsize : i.size = 1) (hby : i.bytes = 1)
    (v : Value) (n : Nat) (l : List UInt8) (hs : a.eval s = v) (hown : w.ownsRow base 5 1 v n (cs l))
    (A : Option Addr) (m c : Nat) (row : Option Nat) (k : List UInt8) (hx : a.eval x = .slice A m c) (hr : Rd w row A m k)
    (hbytes : n + m ≤ 140737488355328) (hbase : base ≤ w.heap.size)
    (h : ∀ v' w', w'.ownsRow base 5 1 v' (n + m) (cs (l ++ k)) → w.grownBy w' v.ownBlock → (v'.ownBlock = v.ownBlock ∨ ∀ g, v'.ownBlock = some g → w.heap.size ≤ g) → K (a.put o.dst v') w') :
    if Region.wanted o (yielded ops a.tmps) = true then o.wp P a w K Q else E := by
  rw [if_pos (wanted_plain hgd)]
  exact wp_app w s x t ho base i ht hi hz hsize hby v n l hs hown A m c row k hx hr hbytes hbase h

theorem int_eq {k : IntKind} {a b : Nat} (h : a = b) : Value.int k (a : Int) = Value.int k (b : Int) := by rw [h]
def xor3 (a b c : List UInt8) : List UInt8 := List.zipWith (· ^^^ ·) (List.zipWith (· ^^^ ·) a b) c
theorem xor3_take (a b c : List UInt8) (j : Nat) (h1 : j < a.length) (h2 : j < b.length) (h3 : j < c.length) : (xor3 a b c).take (j + 1) = (xor3 a b c).take j ++ [a[j] ^^^ b[j] ^^^ c[j]] := by
  have hl : j < (xor3 a b c).length := by unfold xor3; simp; omega
  rw [List.take_succ_eq_append_getElem hl]
  congr 2
  simp [xor3]
theorem xor3_int (x y z : UInt8) : bits .xor .u8 (bits .xor .u8 (x.toNat : Int) (y.toNat : Int)) (z.toNat : Int) = ((x ^^^ y ^^^ z).toNat : Int) := by
  have hx := x.toNat_lt
  have hy := y.toNat_lt
  have hz := z.toNat_lt
  rw [u8_xor_nat _ _ hx hy, u8_xor_nat _ _ (Nat.xor_lt_two_pow (n := 8) hx hy) hz, UInt8.toNat_xor, UInt8.toNat_xor]

theorem xor3_take_all (a b c : List UInt8) (j : Nat) : (xor3 a b c).take j = List.zipWith (· ^^^ ·) (List.zipWith (· ^^^ ·) (a.take j) (b.take j)) (c.take j) := by
  unfold xor3
  rw [List.take_zipWith, List.take_zipWith]
theorem IsRd.row {A : Option Addr} {n c : Nat} {l : List UInt8} {v : Value} {w : World} (hc : n ≤ c) (h : IsRd A n c l v w) : IsSl n l v w := ⟨A, c, h.1, hc, h.2⟩

def D4 (A B C A4 : Option Addr) (n1 c1 n2 c2 n3 c3 c4 j : Nat) (la lb lc Z : List UInt8) : List (Nat × (Value → World → Prop)) :=
  [(0, IsRd A n1 c1 la), (1, IsRd B n2 c2 lb), (2, IsRd C n3 c3 lc), (7, Is (.int .i64 (j : Int))), (8, IsRd A4 j c4 Z),
   (41, IsRd A4 j c4 Z), (42, IsPart Z), (43, Is (.int .u32 (Crc.sum Z : Int))),
   (44, IsRd A n1 c1 la), (45, Is (.int .i64 (j : Int))), (46, IsRd A j c1 (la.take j)), (47, IsPart (la.take j)), (48, Is (.int .u32 (Crc.sum (la.take j) : Int))),
   (49, IsRd B n2 c2 lb), (50, Is (.int .i64 (j : Int))), (51, IsRd B j c2 (lb.take j)), (52, IsPart (lb.take j)), (53, Is (.int .u32 (Crc.sum (lb.take j) : Int))),
   (54, Is (.int .u32 ((Crc.sum (la.take j) ^^^ Crc.sum (lb.take j) : Nat) : Int))),
   (55, IsRd C n3 c3 lc), (56, Is (.int .i64 (j : Int))), (57, IsRd C j c3 (lc.take j)), (58, IsPart (lc.take j)), (59, Is (.int .u32 (Crc.sum (lc.take j) : Int))),
   (60, Is (.int .u32 ((Crc.sum (la.take j) ^^^ Crc.sum (lb.take j) ^^^ Crc.sum (lc.take j) : Nat) : Int))),
   (61, Is (.bool true)), (62, Is (.bool true)), (63, Is (.bool true)), (64, Is (.bool true)), (6, Is (.bool true))]

theorem own_drew {w : World} {b n : Nat} {v : Value} {xs : List Value} (h : w.ownsRow b 5 1 v n xs) : w.drew.ownsRow b 5 1 v n xs := h
theorem rd_drew {w : World} {row : Option Nat} {A : Option Addr} {n : Nat} {l : List UInt8} (h : Rd w row A n l) : Rd w.drew row A n l := h
theorem heap_drew_le {a w : World} {row : Option Nat} (h : a.grownBy w row) : a.heap.size ≤ w.drew.heap.size := h.size

set_option maxHeartbeats 1000000 in
theorem walk4 (A B C : Option Addr) (n1 c1 n2 c2 n3 c3 : Nat) (la lb lc : List UInt8) (w : World) (hra : Rd w none A n1 la) (hrb : Rd w none B n2 lb) (hrc : Rd w none C n3 lc)
    (hc1 : n1 ≤ c1) (hc2 : n2 ≤ c2) (hc3 : n3 ≤ c3) (hn1 : n1 ≤ maxLen) :
    Calls Try.prog 4 #[.slice A n1 c1, .slice B n2 c2, .slice C n3 c3] w fun e w' => e = .returned (.bool true) ∧ Below w.heap.size w w' := by
  unfold maxLen at hn1
  obtain ⟨N, hN1, hN2, hN3, hN⟩ : ∃ N : Nat, N ≤ n1 ∧ N ≤ n2 ∧ N ≤ n3 ∧ (N = n1 ∨ N = n2 ∨ N = n3) := ⟨min n1 (min n2 n3), by omega, by omega, by omega, by omega⟩
  have R1 := hide hra
  have R2 := hide hrb
  have R3 := hide hrc
  have HN := hide hN
  clear hra hrb hrc hN
  go_enter Try.func4, Try.ntmps4
  go_upto_region 1 with fail
  go_cut [7] (fun s7 wx => s7 = .int .i64 (N : Int) ∧ w = wx)
  case first =>
    go_wp2_with fail
    all_goals
      go_meet
      case rel => exact ⟨int_eq (by have := HN.out; omega), rfl⟩
  case rest =>
    obtain ⟨rfl, rfl⟩ := hcut
    by_cases h200 : N ≤ 200
    · obtain ⟨i0, hi, hz0, hz1, hz2⟩ := info_parts info5
      go_wp2_with fail
      go_loopw [8, 9] (fun v i wr => ∃ j : Nat, j ≤ N ∧ i = .int .i64 j ∧ wr.ownsRow w.heap.size 5 1 v j (cs ((xor3 la lb lc).take j)) ∧ w.grownBy wr none) (fun _ i _ => N - (intOf i).toNat)
      case atStart => exact ⟨0, by omega, rfl, World.ownsRow_nil _ _ _ _, gb_refl _ _⟩
      case round =>
        obtain ⟨j, hj, rfl, hO, hG⟩ := hrel
        have O2 := hide hO
        have G2 := hide hG
        clear hO hG
        by_cases hlt : j < N
        · obtain ⟨b1, o1, rfl, hl1, hx1⟩ := (R1.out.grown G2.out (.inl rfl)).at_ (show j < n1 by omega)
          obtain ⟨b2, o2, rfl, hl2, hx2⟩ := (R2.out.grown G2.out (.inl rfl)).at_ (show j < n2 by omega)
          obtain ⟨b3, o3, rfl, hl3, hx3⟩ := (R3.out.grown G2.out (.inl rfl)).at_ (show j < n3 by omega)
          have hs := hide (xor3_take la lb lc j hl1 hl2 hl3)
          have hz := hide (xor3_int la[j] lb[j] lc[j])
          generalize la[j] = x1 at *
          generalize lb[j] = x2 at *
          generalize lc[j] = x3 at *
          have hj1 : (j : Int) < (n1 : Int) := by omega
          have hj2 : (j : Int) < (n2 : Int) := by omega
          have hj3 : (j : Int) < (n3 : Int) := by omega
          go_wp2_with fail
          go_region_law ((refine step_app _ rfl (.tmp 24) (.tmp 39) 25 rfl w.heap.size i0 Try.underlying25 hi hz0 hz1 hz2 _ j ((xor3 la lb lc).take j) rfl ?_ (some ⟨wr.heap.size, 0, none⟩) 1 1 none [x1 ^^^ x2 ^^^ x3] rfl ?_ ?_ ?_ ?_; exact own_drew (O2.out.alloc _); exact rd_drew (rd_one wr hz.out); omega; exact heap_drew_le (gb_alloc G2.out _); intro v1 w1 hown hgrow hlie; clear hlie; have O3 := hide hown; have G3 := hide (p := w.grownBy w1 none) (gb_new (gb_drew (gb_alloc G2.out _)) hgrow (fun g hg => .inl (O2.out.lt g hg).1)); clear hown hgrow))
          all_goals
            go_wp2_with fail
            refine ⟨⟨j + 1, by omega, by go_num, ?_, G3.out⟩, by simp [intOf]; omega⟩
            rw [hs.out]
            exact O3.out
        · have h0 : j = N := by omega
          subst h0
          obtain ⟨A4, c4, rfl, hc4, _⟩ := own_form O2.out
          have hl1 : (la.take j).length = j := (R1.out.take hN1).1
          have hl2 : (lb.take j).length = j := (R2.out.take hN2).1
          have hl3 : (lc.take j).length = j := (R3.out.take hN3).1
          have hsum : Crc.sum ((xor3 la lb lc).take j) = Crc.sum (la.take j) ^^^ Crc.sum (lb.take j) ^^^ Crc.sum (lc.take j) := by
            rw [xor3_take_all]
            exact Crc.sum_xor3 _ _ _ (by omega) (by omega)
          have hZ : ((xor3 la lb lc).take j).length = j := (own_rd O2.out).1
          have Hs := hide hsum
          clear hsum
          have p1 := Crc.sum_lt (la.take j)
          have p2 := Crc.sum_lt (lb.take j)
          have p3 := Crc.sum_lt (lc.take j)
          have p12 : Crc.sum (la.take j) ^^^ Crc.sum (lb.take j) < 4294967296 := Nat.xor_lt_two_pow (n := 32) p1 p2
          generalize (xor3 la lb lc).take j = Z at *
          go_wp2_with fail
          refine wp_region_inv (by kernel_rfl) (look (D4 A B C A4 n1 c1 n2 c2 n3 c3 c4 j la lb lc Z)) [0, 1, 2, 7, 8] (look_mono _ ?mono) (by kernel_rfl) ?start ?steps ?fin
          case mono =>
            repeat (refine all_cons' ?_ ?_)
            all_goals first | exact all_nil | exact Is.mono _ | exact IsRd.mono _ _ _ _ | exact IsPart.mono _
          case start =>
            refine all_cons ⟨rfl, R1.out.grown G2.out (.inl rfl)⟩ (all_cons ⟨rfl, R2.out.grown G2.out (.inl rfl)⟩ (all_cons ⟨rfl, R3.out.grown G2.out (.inl rfl)⟩ (all_cons rfl (all_cons ⟨rfl, own_rd O2.out⟩ all_nil))))
          case steps =>
            refine all_cons (step_move (s := 8) (d := 41) (wants_none rfl) rfl (.inl rfl) (by kernel_rfl) fun _ _ h => h) ?_
            refine all_cons (step_part (s := 41) (d := 42) (n := j) (l := Z) (wants_none rfl) rfl rfl (by kernel_rfl) (fun _ _ h => IsRd.row hc4 h) fun _ _ h => h) ?_
            refine all_cons (step_sum (s := 42) (d := 43) (l := Z) (wants_none rfl) rfl rfl (by kernel_rfl) (by omega) (fun _ _ h => h) fun _ => rfl) ?_
            refine all_cons (step_move (s := 0) (d := 44) (wants_none rfl) rfl (.inl rfl) (by kernel_rfl) fun _ _ h => h) ?_
            refine all_cons (step_move (s := 7) (d := 45) (wants_none rfl) rfl (.inl rfl) (by kernel_rfl) fun _ _ h => h) ?_
            refine all_cons (step_front (s := 44) (t := 45) (d := 46) (m := j) (n := n1) (c := c1) (A := A) (l := la) (wants_none rfl) rfl rfl (by kernel_rfl) (by kernel_rfl) hN1 hc1 (fun _ _ h => h) (fun _ _ h => h) fun _ _ h => h) ?_
            refine all_cons (step_part (s := 46) (d := 47) (n := j) (l := la.take j) (wants_none rfl) rfl rfl (by kernel_rfl) (fun _ _ h => IsRd.row (Nat.le_trans hN1 hc1) h) fun _ _ h => h) ?_
            refine all_cons (step_sum (s := 47) (d := 48) (l := la.take j) (wants_none rfl) rfl rfl (by kernel_rfl) (by omega) (fun _ _ h => h) fun _ => rfl) ?_
            refine all_cons (step_move (s := 1) (d := 49) (wants_none rfl) rfl (.inl rfl) (by kernel_rfl) fun _ _ h => h) ?_
            refine all_cons (step_move (s := 7) (d := 50) (wants_none rfl) rfl (.inl rfl) (by kernel_rfl) fun _ _ h => h) ?_
            refine all_cons (step_front (s := 49) (t := 50) (d := 51) (m := j) (n := n2) (c := c2) (A := B) (l := lb) (wants_none rfl) rfl rfl (by kernel_rfl) (by kernel_rfl) hN2 hc2 (fun _ _ h => h) (fun _ _ h => h) fun _ _ h => h) ?_
            refine all_cons (step_part (s := 51) (d := 52) (n := j) (l := lb.take j) (wants_none rfl) rfl rfl (by kernel_rfl) (fun _ _ h => IsRd.row (Nat.le_trans hN2 hc2) h) fun _ _ h => h) ?_
            refine all_cons (step_sum (s := 52) (d := 53) (l := lb.take j) (wants_none rfl) rfl rfl (by kernel_rfl) (by omega) (fun _ _ h => h) fun _ => rfl) ?_
            refine all_cons (step_xor (s := 48) (t := 53) (d := 54) (wants_none rfl) rfl rfl (by kernel_rfl) (by kernel_rfl) p1 p2 (fun _ _ h => h) (fun _ _ h => h) fun _ => rfl) ?_
            refine all_cons (step_move (s := 2) (d := 55) (wants_none rfl) rfl (.inl rfl) (by kernel_rfl) fun _ _ h => h) ?_
            refine all_cons (step_move (s := 7) (d := 56) (wants_none rfl) rfl (.inl rfl) (by kernel_rfl) fun _ _ h => h) ?_
            refine all_cons (step_front (s := 55) (t := 56) (d := 57) (m := j) (n := n3) (c := c3) (A := C) (l := lc) (wants_none rfl) rfl rfl (by kernel_rfl) (by kernel_rfl) hN3 hc3 (fun _ _ h => h) (fun _ _ h => h) fun _ _ h => h) ?_
            refine all_cons (step_part (s := 57) (d := 58) (n := j) (l := lc.take j) (wants_none rfl) rfl rfl (by kernel_rfl) (fun _ _ h => IsRd.row (Nat.le_trans hN3 hc3) h) fun _ _ h => h) ?_
            refine all_cons (step_sum (s := 58) (d := 59) (l := lc.take j) (wants_none rfl) rfl rfl (by kernel_rfl) (by omega) (fun _ _ h => h) fun _ => rfl) ?_
            refine all_cons (step_xor (s := 54) (t := 59) (d := 60) (wants_none rfl) rfl rfl (by kernel_rfl) (by kernel_rfl) p12 p3 (fun _ _ h => h) (fun _ _ h => h) fun _ => rfl) ?_
            refine all_cons (step_eq32 (s := 43) (t := 60) (d := 61) (wants_none rfl) rfl rfl (by kernel_rfl) (by kernel_rfl) Hs.out (fun _ _ h => h) (fun _ _ h => h) fun _ => rfl) ?_
            refine all_cons (step_move (s := 61) (d := 62) (wants_none rfl) rfl (.inl rfl) (by kernel_rfl) fun _ _ h => h) ?_
            refine all_cons (step_awake (d := 63) (wants_bool (g := 21) (d := 62) rfl rfl (by kernel_rfl) fun _ _ h => h) rfl rfl fun _ => rfl) ?_
            refine all_cons (step_pick (s := 62) (t := 63) (d := 64) (wants_none rfl) rfl rfl (by kernel_rfl) (by kernel_rfl) (fun _ _ h => h) (fun _ _ h => h) fun _ => rfl) ?_
            refine all_cons (step_move (s := 64) (d := 6) (wants_none rfl) rfl (.inr rfl) (by kernel_rfl) fun _ _ h => h) all_nil
          case fin =>
            intro a w1 hg hd hD
            have h2 : a.tmps.getD 6 undef = .bool true := hD 24 _ 6 rfl rfl
            have H2 := hide h2
            clear h2
            go_wp2
            exact bodyPost_ret (v := .bool true) (by simp [results, Try.results4, sl H2.out]) hd ⟨rfl, gb_below (gb_trans G2.out hg)⟩
    · have h200' : 200 < N := by omega
      go_wp2_with fail
      go_ret
      exact ⟨rfl, Below.refl _ _⟩
end Go.Proofs.Ytojlnbolfahmcaa
