/-
  The plain arithmetic of the CRC-32 register, over natural numbers and lists of bytes alone: no program, no memory.
  Conditions: none; bytes are 'UInt8', the register is a 'Nat'.
-/
namespace Go.Proofs.Ytojlnbolfahmcaa.Crc

/-- The polynomial, low bit first. -/
def poly : Nat := 3988292384
/-- All ones. -/
def ones : Nat := 4294967295
/-- The register goes right by one bit. -/
def stp (r : Nat) : Nat := if r % 2 = 1 then (r / 2) ^^^ poly else r / 2
/-- So many steps. -/
def stps : Nat → Nat → Nat
  | 0, r => r
  | k + 1, r => stp (stps k r)
/-- One bit is taken in. -/
def bit (r b : Nat) : Nat := if r % 2 = b then r / 2 else (r / 2) ^^^ poly
/-- The lowest k bits of x, one behind the other. -/
def bits (x : Nat) : Nat → Nat → Nat
  | 0, r => r
  | k + 1, r => bit (bits x k r) (x / 2 ^ k % 2)
def byte (r x : Nat) : Nat := bits x 8 r
def reg (r : Nat) (l : List UInt8) : Nat := l.foldl (fun r x => byte r x.toNat) r
/-- The sum of bytes. -/
def sum (l : List UInt8) : Nat := 4294967295 - reg 4294967295 l
/-- What the register comes to by half a byte. -/
def tab (i : Nat) : Nat := stps 4 i
def nib (r : Nat) : Nat := tab (r % 16) ^^^ (r / 16)

theorem xor_half (a b : Nat) : (a ^^^ b) / 2 = a / 2 ^^^ b / 2 := by
  have := Nat.shiftRight_xor_distrib (a := a) (b := b) (i := 1)
  simpa [Nat.shiftRight_succ] using this

theorem xor_low (a b : Nat) : (a ^^^ b) % 2 = (a % 2) ^^^ (b % 2) := Nat.xor_mod_two_pow (n := 1)

theorem stp_xor (a b : Nat) : stp (a ^^^ b) = stp a ^^^ stp b := by
  unfold stp
  rw [xor_half, xor_low]
  rcases Nat.mod_two_eq_zero_or_one a with ha | ha <;> rcases Nat.mod_two_eq_zero_or_one b with hb | hb <;> simp only [ha, hb]
  · simp
  · simp [Nat.xor_assoc]
  · simp only [Nat.xor_zero, if_true]
    rw [if_neg (by decide)]
    simp only [Nat.xor_assoc, Nat.xor_comm poly]
  · simp only [Nat.xor_self, if_true]
    rw [if_neg (by decide)]
    rw [Nat.xor_assoc, Nat.xor_comm poly, Nat.xor_assoc, Nat.xor_self, Nat.xor_zero]

theorem stp_two (m : Nat) : stp (2 * m) = m := by
  unfold stp
  rw [if_neg (by omega)]
  omega

theorem stps_xor (k a b : Nat) : stps k (a ^^^ b) = stps k a ^^^ stps k b := by
  induction k with
  | zero => rfl
  | succ k ih => simp only [stps, ih, stp_xor]

theorem stps_add (j k r : Nat) : stps (j + k) r = stps k (stps j r) := by
  induction k with
  | zero => rfl
  | succ k ih => rw [← Nat.add_assoc]; simp only [stps, ih]

theorem stps_pow (k m : Nat) : stps k (2 ^ k * m) = m := by
  induction k generalizing m with
  | zero => simp [stps]
  | succ k ih =>
    have h : 2 ^ (k + 1) * m = 2 ^ k * (2 * m) := by rw [Nat.pow_succ, Nat.mul_assoc]
    rw [h, stps, ih, stp_two]

theorem stp_zero : stp 0 = 0 := by unfold stp; simp
theorem stps_zero (k : Nat) : stps k 0 = 0 := by
  induction k with
  | zero => rfl
  | succ k ih => rw [stps, ih, stp_zero]

theorem bit_eq (r b : Nat) (hb : b < 2) : bit r b = stp (r ^^^ b) := by
  have h2 : r % 2 = 0 ∨ r % 2 = 1 := Nat.mod_two_eq_zero_or_one r
  have hb2 : b = 0 ∨ b = 1 := by omega
  unfold bit stp
  rw [xor_half, xor_low]
  rcases hb2 with rfl | rfl <;> rcases h2 with h | h <;> simp [h]

/-- A number taken apart at bit k. -/
theorem split_xor (x k : Nat) : x = (x % 2 ^ k) ^^^ (2 ^ k * (x / 2 ^ k)) := by
  have h : x % 2 ^ k < 2 ^ k := Nat.mod_lt _ (Nat.two_pow_pos k)
  have e := Nat.mod_add_div x (2 ^ k)
  apply Nat.eq_of_testBit_eq
  intro i
  rw [Nat.testBit_xor, Nat.testBit_mod_two_pow, Nat.testBit_two_pow_mul, Nat.testBit_div_two_pow]
  by_cases hi : i < k
  · simp [hi, show ¬ (k ≤ i) by omega]
  · have : i - k + k = i := by omega
    simp [hi, show k ≤ i by omega, this]

theorem mod_succ_xor (x k : Nat) : x % 2 ^ (k + 1) = (x % 2 ^ k) ^^^ (2 ^ k * (x / 2 ^ k % 2)) := by
  have h1 := split_xor (x % 2 ^ (k + 1)) k
  have h2 : x % 2 ^ (k + 1) % 2 ^ k = x % 2 ^ k := Nat.mod_mod_of_dvd _ ⟨2, by rw [Nat.pow_succ]⟩
  have h3 : x % 2 ^ (k + 1) / 2 ^ k = x / 2 ^ k % 2 := by
    rw [Nat.pow_succ, Nat.mod_mul_right_div_self]
  rw [h2, h3] at h1
  exact h1

theorem bits_eq (x k r : Nat) : bits x k r = stps k (r ^^^ (x % 2 ^ k)) := by
  induction k with
  | zero => simp [bits, stps, Nat.mod_one]
  | succ k ih =>
    rw [bits, ih, bit_eq _ _ (Nat.mod_lt _ (by decide)), mod_succ_xor, ← Nat.xor_assoc]
    rw [stps, stps_xor k (r ^^^ x % 2 ^ k), stps_pow]

theorem byte_eq (r x : Nat) (hx : x < 256) : byte r x = stps 8 (r ^^^ x) := by
  unfold byte
  rw [bits_eq, Nat.mod_eq_of_lt (by simpa using hx)]

theorem nib_eq (r : Nat) : nib r = stps 4 r := by
  have h := split_xor r 4
  have e := congrArg (stps 4) h
  rw [stps_xor, stps_pow] at e
  rw [e]
  rfl

/-- The two halves of a byte through the table: one byte through the register. -/
theorem nib_nib (r x : Nat) (hx : x < 256) : nib (nib (r ^^^ x)) = byte r x := by
  rw [nib_eq, nib_eq, byte_eq r x hx, ← stps_add]

/-! bounds -/
theorem stp_lt {r : Nat} (h : r < 4294967296) : stp r < 4294967296 := by
  unfold stp
  split
  · exact Nat.xor_lt_two_pow (n := 32) (by omega) (by decide)
  · omega
theorem stps_lt (k : Nat) {r : Nat} (h : r < 4294967296) : stps k r < 4294967296 := by
  induction k with
  | zero => exact h
  | succ k ih => exact stp_lt ih
theorem bit_lt {r b : Nat} (h : r < 4294967296) : bit r b < 4294967296 := by
  unfold bit
  split
  · omega
  · exact Nat.xor_lt_two_pow (n := 32) (by omega) (by decide)
theorem bits_lt (x k : Nat) {r : Nat} (h : r < 4294967296) : bits x k r < 4294967296 := by
  induction k with
  | zero => exact h
  | succ k ih => exact bit_lt ih
theorem byte_lt (x : Nat) {r : Nat} (h : r < 4294967296) : byte r x < 4294967296 := bits_lt x 8 h
theorem reg_lt (l : List UInt8) : ∀ {r : Nat}, r < 4294967296 → reg r l < 4294967296 := by
  induction l with
  | nil => intro r h; exact h
  | cons x l ih => intro r h; exact ih (byte_lt x.toNat h)
theorem tab_lt {i : Nat} (h : i < 16) : tab i < 4294967296 := stps_lt 4 (by omega)
theorem nib_lt {r : Nat} (h : r < 4294967296) : nib r < 4294967296 := by rw [nib_eq]; exact stps_lt 4 h
theorem sum_lt (l : List UInt8) : sum l < 4294967296 := by unfold sum; omega

theorem reg_nil (r : Nat) : reg r [] = r := rfl
theorem reg_cons (r : Nat) (x : UInt8) (l : List UInt8) : reg r (x :: l) = reg (byte r x.toNat) l := by unfold reg; rw [List.foldl_cons]
theorem reg_append (r : Nat) (l m : List UInt8) : reg r (l ++ m) = reg (reg r l) m := by unfold reg; rw [List.foldl_append]
theorem reg_snoc (r : Nat) (l : List UInt8) (x : UInt8) : reg r (l ++ [x]) = byte (reg r l) x.toNat := by rw [reg_append]; rfl

/-- The complement is a turning of all bits. -/
theorem compl_eq {r : Nat} (h : r < 4294967296) : 4294967295 - r = r ^^^ 4294967295 := by
  have hb : 4294967295 - r = 2 ^ 32 - (r + 1) := by omega
  rw [hb]
  apply Nat.eq_of_testBit_eq
  intro i
  rw [Nat.testBit_two_pow_sub_succ (by simpa using h), Nat.testBit_xor]
  have h1 : Nat.testBit 4294967295 i = decide (i < 32) := Nat.testBit_two_pow_sub_one 32 i
  rw [h1]
  by_cases hi : i < 32
  · simp [hi]
  · have : r.testBit i = false := Nat.testBit_lt_two_pow (Nat.lt_of_lt_of_le (show r < 2 ^ 32 by simpa using h) (Nat.pow_le_pow_right (by decide) (by omega)))
    simp [hi, this]

theorem sum_eq (l : List UInt8) : sum l = reg 4294967295 l ^^^ 4294967295 := by
  have h : reg 4294967295 l < 4294967296 := reg_lt l (by decide)
  unfold sum
  exact compl_eq h

/-! all the bytes as one number -/
def val : List UInt8 → Nat
  | [] => 0
  | x :: l => x.toNat + 256 * val l

theorem val_lt (l : List UInt8) : val l < 2 ^ (8 * l.length) := by
  induction l with
  | nil => simp [val]
  | cons x l ih =>
    have hx := x.toNat_lt
    have e : 2 ^ (8 * (x :: l).length) = 256 * 2 ^ (8 * l.length) := by
      rw [List.length_cons, Nat.mul_add, Nat.pow_add, Nat.mul_comm]
    rw [e, val]
    omega

theorem val_inj : ∀ (l m : List UInt8), l.length = m.length → val l = val m → l = m
  | [], [], _, _ => rfl
  | [], _ :: _, h, _ => by simp at h
  | _ :: _, [], h, _ => by simp at h
  | x :: l, y :: m, h, e => by
    have hx := x.toNat_lt
    have hy := y.toNat_lt
    simp only [val] at e
    have h1 : x.toNat = y.toNat := by omega
    have h2 : val l = val m := by omega
    rw [UInt8.toNat_inj.1 h1, val_inj l m (by simpa using h) h2]

theorem val_cons_xor (x : UInt8) (l : List UInt8) : val (x :: l) = x.toNat ^^^ (2 ^ 8 * val l) := by
  have h := split_xor (val (x :: l)) 8
  have hx := x.toNat_lt
  have e1 : val (x :: l) % 2 ^ 8 = x.toNat := by simp only [val]; omega
  have e2 : val (x :: l) / 2 ^ 8 = val l := by simp only [val]; omega
  rw [e1, e2] at h
  exact h

/-- ALL BYTES AT ONCE: the register behind them. -/
theorem reg_val (l : List UInt8) : ∀ r, reg r l = stps (8 * l.length) (r ^^^ val l) := by
  induction l with
  | nil => intro r; simp [reg, val, stps]
  | cons x l ih =>
    intro r
    rw [reg_cons, ih, byte_eq r _ x.toNat_lt, val_cons_xor, List.length_cons, Nat.mul_add, Nat.add_comm, Nat.mul_one, stps_add, ← Nat.xor_assoc,
      stps_xor 8 (r ^^^ x.toNat), stps_pow]

theorem val_append (l m : List UInt8) : val (l ++ m) = val l ^^^ (2 ^ (8 * l.length) * val m) := by
  induction l with
  | nil => simp [val]
  | cons x l ih =>
    rw [List.cons_append, val_cons_xor, ih, val_cons_xor, Nat.xor_assoc]
    congr 1
    have e : 2 ^ (8 * (x :: l).length) * val m = 2 ^ 8 * (2 ^ (8 * l.length) * val m) := by
      rw [List.length_cons, Nat.mul_add, Nat.pow_add, Nat.mul_one, Nat.mul_comm (2 ^ (8 * l.length)), Nat.mul_assoc]
    rw [e]
    apply Nat.eq_of_testBit_eq
    intro i
    simp only [Nat.testBit_xor, Nat.testBit_two_pow_mul]
    by_cases hi : 8 ≤ i <;> simp [hi]

/-! a number's four bytes -/
def le4 (v : Nat) : List UInt8 := [UInt8.ofNat v, UInt8.ofNat (v / 256), UInt8.ofNat (v / 65536), UInt8.ofNat (v / 16777216)]
theorem le4_length (v : Nat) : (le4 v).length = 4 := rfl
theorem val_le4 (v : Nat) (h : v < 4294967296) : val (le4 v) = v := by
  simp only [le4, val, UInt8.toNat_ofNat']
  omega
theorem le4_val (l : List UInt8) (h : l.length = 4) : le4 (val l) = l :=
  val_inj _ _ (by rw [h]; rfl) (val_le4 _ (by have := val_lt l; rw [h] at this; simpa using this))

/-- Bytes with their sum. -/
def put (l : List UInt8) : List UInt8 := l ++ le4 (sum l)
theorem put_length (l : List UInt8) : (put l).length = l.length + 4 := by unfold put; rw [List.length_append, le4_length]

theorem reg_le4 (r v : Nat) (h : v < 4294967296) : reg r (le4 v) = stps 32 (r ^^^ v) := by
  rw [reg_val, val_le4 v h]; rfl

/-- WHAT HAS ITS SUM HAS ONE REGISTER. -/
theorem reg_put (l : List UInt8) : reg 4294967295 (put l) = stps 32 4294967295 := by
  unfold put
  rw [reg_append, reg_le4 _ _ (sum_lt l), sum_eq, ← Nat.xor_assoc, Nat.xor_self, Nat.zero_xor]

theorem sum_put (l m : List UInt8) : sum (put l) = sum (put m) := by unfold sum; rw [reg_put, reg_put]

/-! nothing but zero goes to zero -/
theorem stp_eq_zero {r : Nat} (h : r < 4294967296) (h0 : stp r = 0) : r = 0 := by
  unfold stp at h0
  split at h0
  · have e : r / 2 = poly := by
      have := congrArg (· ^^^ poly) h0
      simpa [Nat.xor_assoc] using this
    have : poly = 3988292384 := rfl
    omega
  · omega
theorem stps_eq_zero (k : Nat) {r : Nat} (h : r < 4294967296) (h0 : stps k r = 0) : r = 0 := by
  induction k with
  | zero => exact h0
  | succ k ih => exact ih (stp_eq_zero (stps_lt k h) h0)
theorem xor_eq_zero {a b : Nat} (h : a ^^^ b = 0) : a = b := by
  have := congrArg (· ^^^ b) h
  simpa [Nat.xor_assoc] using this

/-- Bytes with their sum are told by the register. -/
theorem fits_reg (l t : List UInt8) (ht : t.length = 4) : reg 4294967295 (l ++ t) = stps 32 4294967295 ↔ put l = l ++ t := by
  have hv : val t < 4294967296 := by have := val_lt t; rw [ht] at this; simpa using this
  have hr : reg 4294967295 l < 4294967296 := reg_lt l (by decide)
  constructor
  · intro h
    rw [reg_append, ← le4_val t ht, reg_le4 _ _ hv] at h
    have h1 : stps 32 ((reg 4294967295 l ^^^ val t) ^^^ 4294967295) = 0 := by rw [stps_xor, h, Nat.xor_self]
    have h2 := stps_eq_zero 32 (Nat.xor_lt_two_pow (n := 32) (Nat.xor_lt_two_pow (n := 32) hr hv) (by decide)) h1
    have h3 : sum l = val t := by
      rw [sum_eq]
      have h4 := xor_eq_zero h2
      generalize reg 4294967295 l = r at *
      rw [← h4, ← Nat.xor_assoc, Nat.xor_self, Nat.zero_xor]
    unfold put
    rw [h3, le4_val t ht]
  · intro h
    rw [← h, reg_put]

def fits (l : List UInt8) : Bool := decide (4 ≤ l.length) && decide (put (l.take (l.length - 4)) = l)

theorem fits_iff (l : List UInt8) (h : 4 ≤ l.length) : fits l = true ↔ reg 4294967295 l = stps 32 4294967295 := by
  have hs : l = l.take (l.length - 4) ++ l.drop (l.length - 4) := (List.take_append_drop _ _).symm
  have ht : (l.drop (l.length - 4)).length = 4 := by rw [List.length_drop]; omega
  have hf := fits_reg (l.take (l.length - 4)) (l.drop (l.length - 4)) ht
  rw [← hs] at hf
  unfold fits
  simp only [Bool.and_eq_true, decide_eq_true_eq]
  exact ⟨fun h => hf.2 h.2, fun h' => ⟨h, hf.1 h'⟩⟩

theorem fits_put (l : List UInt8) : fits (put l) = true :=
  (fits_iff _ (by rw [put_length]; omega)).2 (reg_put l)

/-- A BURST IS TOLD. -/
theorem fits_burst (c d : List UInt8) (at_ p : Nat) (hc : fits c = true) (h4 : 4 ≤ c.length) (hl : d.length = c.length) (ha : at_ ≤ 8 * c.length)
    (hp : p < 4294967296) (hv : val d = val c ^^^ (2 ^ at_ * p)) : fits d = decide (d = c) := by
  have hc' := (fits_iff c h4).1 hc
  have hd := fits_iff d (by omega)
  have e : reg 4294967295 d = reg 4294967295 c ^^^ stps (8 * c.length - at_) p := by
    rw [reg_val d, reg_val c, hl, hv, ← Nat.xor_assoc, stps_xor]
    congr 1
    have : 8 * c.length = at_ + (8 * c.length - at_) := by omega
    rw [this, stps_add, stps_pow]
    congr 1
    omega
  rw [Bool.eq_iff_iff, hd, decide_eq_true_iff, e, hc']
  constructor
  · intro h
    have h1 : stps (8 * c.length - at_) p = 0 := by
      have := congrArg (stps 32 4294967295 ^^^ ·) h
      simpa [← Nat.xor_assoc] using this
    have h2 := stps_eq_zero _ hp h1
    subst h2
    exact val_inj d c hl (by rw [hv]; simp)
  · rintro rfl
    have h1 : 2 ^ at_ * p = 0 := by
      have := congrArg (val d ^^^ ·) hv
      simpa [← Nat.xor_assoc] using this.symm
    have h2 : p = 0 := by
      rcases Nat.mul_eq_zero.1 h1 with h | h
      · exact absurd h (Nat.ne_of_gt (Nat.two_pow_pos at_))
      · exact h
    rw [h2, stps_zero, Nat.xor_zero]

/-! one byte turned -/
theorem val_set (l : List UInt8) : ∀ (j i : Nat), j < l.length → i < 8 → val (l.set j (l.getD j 0 ^^^ UInt8.ofNat (2 ^ i))) = val l ^^^ 2 ^ (8 * j + i) := by
  induction l with
  | nil => intro j i h; simp at h
  | cons x l ih =>
    intro j i hj hi
    have hx := x.toNat_lt
    have hpow : 2 ^ i < 256 := by
      have : 2 ^ i < 2 ^ 8 := Nat.pow_lt_pow_right (by decide) hi
      simpa using this
    cases j with
    | zero =>
      simp only [List.set_cons_zero, List.getD_cons_zero, val_cons_xor, Nat.mul_zero, Nat.zero_add]
      have : (x ^^^ UInt8.ofNat (2 ^ i)).toNat = x.toNat ^^^ 2 ^ i := by
        rw [UInt8.toNat_xor, UInt8.toNat_ofNat', Nat.mod_eq_of_lt hpow]
      rw [this, Nat.xor_assoc, Nat.xor_assoc, Nat.xor_comm (2 ^ i)]
    | succ j =>
      simp only [List.set_cons_succ, List.getD_cons_succ, val_cons_xor]
      rw [ih j i (by simpa using hj) hi, Nat.xor_assoc]
      congr 1
      have e : 2 ^ (8 * (j + 1) + i) = 2 ^ 8 * 2 ^ (8 * j + i) := by rw [← Nat.pow_add]; congr 1; omega
      rw [e]
      apply Nat.eq_of_testBit_eq
      intro n
      simp only [Nat.testBit_xor, Nat.testBit_two_pow_mul]
      by_cases hn : 8 ≤ n <;> simp [hn]

/-! sums of bytes of one length go together -/
theorem val_zipxor : ∀ (l m : List UInt8), l.length = m.length → val (List.zipWith (· ^^^ ·) l m) = val l ^^^ val m
  | [], [], _ => by simp [val]
  | [], _ :: _, h => by simp at h
  | _ :: _, [], h => by simp at h
  | x :: l, y :: m, h => by
    rw [List.zipWith_cons_cons, val_cons_xor, val_cons_xor, val_cons_xor, val_zipxor l m (by simpa using h), UInt8.toNat_xor]
    apply Nat.eq_of_testBit_eq
    intro i
    simp only [Nat.testBit_xor, Nat.testBit_two_pow_mul]
    by_cases hi : 8 ≤ i <;> simp [hi]
    · cases x.toNat.testBit i <;> cases y.toNat.testBit i <;> cases (val l).testBit (i - 8) <;> cases (val m).testBit (i - 8) <;> rfl

theorem sum_xor3 (a b c : List UInt8) (h1 : a.length = b.length) (h2 : b.length = c.length) :
    sum (List.zipWith (· ^^^ ·) (List.zipWith (· ^^^ ·) a b) c) = sum a ^^^ sum b ^^^ sum c := by
  have hl : (List.zipWith (· ^^^ ·) a b).length = a.length := by rw [List.length_zipWith]; omega
  have hl2 : (List.zipWith (· ^^^ ·) (List.zipWith (· ^^^ ·) a b) c).length = a.length := by rw [List.length_zipWith, hl]; omega
  rw [sum_eq, sum_eq, sum_eq, sum_eq, reg_val _, reg_val a, reg_val b, reg_val c, hl2, val_zipxor _ _ (by omega), val_zipxor _ _ h1, ← h2, ← h1]
  simp only [stps_xor]
  apply Nat.eq_of_testBit_eq
  intro i
  simp only [Nat.testBit_xor]
  generalize (stps (8 * a.length) 4294967295).testBit i = f
  generalize Nat.testBit 4294967295 i = g
  generalize (stps (8 * a.length) (val a)).testBit i = x
  generalize (stps (8 * a.length) (val b)).testBit i = y
  generalize (stps (8 * a.length) (val c)).testBit i = z
  cases f <;> cases g <;> cases x <;> cases y <;> cases z <;> rfl

end Go.Proofs.Ytojlnbolfahmcaa.Crc
