/- What the functions compute, in plain Lean: numbers, sums, frames. No program in sight. -/
namespace Go.Proofs.YtamodllgeabpoaaDoor

/-- fits in 64 bits (a name for the bound: the numeral itself may not stand in a walk's context) -/
structure Lt64 (n : Nat) : Prop where
  out : n < 18446744073709551616

/-- a fact that the walk does not look into -/
structure Hd (p : Prop) : Prop where
  out : p

/-- a number, seven bits a byte, low ones first -/
def leb (n : Nat) : List UInt8 := if n < 128 then [UInt8.ofNat n] else UInt8.ofNat (n % 128 + 128) :: leb (n / 128)
termination_by n
decreasing_by omega
theorem leb_lt {n : Nat} (h : n < 128) : leb n = [UInt8.ofNat n] := by rw [leb, if_pos h]
theorem leb_ge {n : Nat} (h : 128 ≤ n) : leb n = UInt8.ofNat (n % 128 + 128) :: leb (n / 128) := by rw [leb, if_neg (by omega)]
theorem leb_pos (n : Nat) : 0 < (leb n).length := by rw [leb]; split <;> simp
theorem leb_le (k : Nat) : ∀ n, n < 128 ^ (k + 1) → (leb n).length ≤ k + 1 := by
  induction k with
  | zero => intro n h; rw [leb_lt (by simpa using h)]; simp
  | succ k ih =>
    intro n h
    by_cases h1 : n < 128
    · rw [leb_lt h1]; simp
    · rw [leb_ge (by omega)]
      have := ih (n / 128) (by rw [Nat.pow_succ] at h; exact Nat.div_lt_of_lt_mul (by omega))
      simp; omega
theorem leb_ten {n : Nat} (h : Lt64 n) : (leb n).length ≤ 10 := leb_le 9 n (by have := h.out; omega)

/-- what reading a number from the bytes l gives, i bytes having been read before, which made acc: the number and how many bytes it took; or the error -/
def rdu : List UInt8 → Nat → Nat → Except Int (Nat × Nat)
  | [], _, _ => .error 10
  | c :: r, i, acc =>
    if i = 9 ∧ 1 < c.toNat then .error 12
    else if 128 ≤ c.toNat then rdu r (i + 1) (acc + c.toNat % 128 * 128 ^ i)
    else if c.toNat = 0 ∧ 0 < i then .error 11
    else .ok (acc + c.toNat * 128 ^ i, i + 1)
/-- ReadUint(b, at): the number, the place behind it -/
def readU (b : List UInt8) (at_ : Nat) : Except Int (Nat × Nat) :=
  if b.length < at_ then .error 1 else (rdu (b.drop at_) 0 0).map fun (v, n) => (v, at_ + n)

/-- what seven bits a byte make, the first byte lowest -/
def lsum : List UInt8 → Nat
  | [] => 0
  | c :: r => c.toNat % 128 + 128 * lsum r
theorem lsum_snoc (l : List UInt8) (c : UInt8) : lsum (l ++ [c]) = lsum l + c.toNat % 128 * 128 ^ l.length := by
  induction l with
  | nil => simp [lsum]
  | cons x r ih => simp only [List.cons_append, lsum, ih, List.length_cons, Nat.pow_succ, Nat.mul_add]; rw [Nat.add_assoc]; congr 2; rw [← Nat.mul_assoc, Nat.mul_comm 128, Nat.mul_assoc, Nat.mul_comm 128]
theorem lsum_lt (l : List UInt8) : lsum l < 128 ^ l.length := by
  induction l with
  | nil => simp [lsum]
  | cons x r ih => simp only [lsum, List.length_cons, Nat.pow_succ]; omega
theorem lsum_drop_le (l : List UInt8) : ∀ k, lsum (l.drop k) ≤ lsum l := by
  induction l with
  | nil => intro k; simp
  | cons x r ih =>
    intro k
    cases k with
    | zero => simp
    | succ k => simp only [List.drop_succ_cons, lsum]; have := ih k; omega

/-- one step of the sum -/
def cbit (r : Nat) : Nat := if r % 2 = 1 then r / 2 ^^^ 3988292384 else r / 2
def cfour (r : Nat) : Nat := cbit (cbit (cbit (cbit r)))
def cbyte (r : Nat) (x : UInt8) : Nat := cfour (cfour (r ^^^ x.toNat))
def craw (r : Nat) (l : List UInt8) : Nat := l.foldl cbyte r
/-- the sum of the bytes -/
def crc (l : List UInt8) : Nat := 4294967295 - craw 4294967295 l
/-- what four steps make of each half of a byte -/
def tbl : List Nat := [0, 498536548, 997073096, 651767980, 1994146192, 1802195444, 1303535960, 1342533948, 3988292384, 4027552580, 3604390888, 3412177804, 2607071920, 2262029012, 2685067896, 3183342108]

theorem cbit_xor (a b : Nat) : cbit (a ^^^ b) = cbit a ^^^ cbit b := by
  have h2 : (a ^^^ b) / 2 = a / 2 ^^^ b / 2 := by
    have := Nat.shiftRight_xor_distrib (a := a) (b := b) (i := 1)
    simpa [Nat.shiftRight_eq_div_pow] using this
  have h1 : (a ^^^ b) % 2 = (a % 2 + b % 2) % 2 := by
    have h := Nat.xor_mod_two_pow (a := a) (b := b) (n := 1)
    simp only [Nat.pow_one] at h
    rw [h]
    rcases Nat.mod_two_eq_zero_or_one a with ha | ha <;> rcases Nat.mod_two_eq_zero_or_one b with hb | hb <;> rw [ha, hb] <;> rfl
  unfold cbit
  rw [h2, h1]
  rcases Nat.mod_two_eq_zero_or_one a with ha | ha <;> rcases Nat.mod_two_eq_zero_or_one b with hb | hb <;> simp only [ha, hb] <;> simp
  · rw [Nat.xor_assoc]
  · ac_rfl
  · rw [show a / 2 ^^^ 3988292384 ^^^ (b / 2 ^^^ 3988292384) = (a / 2 ^^^ b / 2) ^^^ (3988292384 ^^^ 3988292384) from by ac_rfl, Nat.xor_self, Nat.xor_zero]
theorem cfour_xor (a b : Nat) : cfour (a ^^^ b) = cfour a ^^^ cfour b := by simp only [cfour, cbit_xor]
theorem cbit_even (m : Nat) : cbit (2 * m) = m := by unfold cbit; rw [if_neg (by omega)]; omega
theorem cfour_16 (m : Nat) : cfour (16 * m) = m := by
  unfold cfour
  rw [show 16 * m = 2 * (2 * (2 * (2 * m))) from by omega, cbit_even, cbit_even, cbit_even, cbit_even]
theorem cfour_small : ∀ i : Fin 16, cfour i.val = tbl.getD i.val 0 := by decide +kernel
theorem split16 (c : Nat) : c = 16 * (c / 16) ^^^ c % 16 := by
  apply Nat.eq_of_testBit_eq
  intro i
  rw [Nat.testBit_xor, show 16 * (c / 16) = 2 ^ 4 * (c / 2 ^ 4) from rfl, Nat.testBit_two_pow_mul, show c % 16 = c % 2 ^ 4 from rfl, Nat.testBit_mod_two_pow, Nat.testBit_div_two_pow]
  by_cases h : i < 4
  · simp only [h, decide_true, Bool.true_and]
    rw [show decide (i ≥ 4) = false from by simp; omega]; simp
  · simp only [h, decide_false, Bool.false_and, Bool.xor_false]
    rw [show i - 4 + 4 = i from by omega]; simp; omega
theorem cfour_tbl (c : Nat) : tbl.getD (c % 16) 0 ^^^ c / 16 = cfour c := by
  conv => rhs; rw [split16 c, cfour_xor, cfour_16]
  rw [Nat.xor_comm, ← cfour_small ⟨c % 16, by omega⟩]
theorem cbit_lt {r : Nat} (h : r < 4294967296) : cbit r < 4294967296 := by
  unfold cbit
  split
  · exact Nat.xor_lt_two_pow (n := 32) (by omega) (by omega)
  · omega
theorem cfour_lt {r : Nat} (h : r < 4294967296) : cfour r < 4294967296 := cbit_lt (cbit_lt (cbit_lt (cbit_lt h)))
theorem cxor_lt {r : Nat} (h : r < 4294967296) (x : UInt8) : r ^^^ x.toNat < 4294967296 := Nat.xor_lt_two_pow (n := 32) h (by have := x.toNat_lt; omega)
theorem cbyte_lt {r : Nat} (h : r < 4294967296) (x : UInt8) : cbyte r x < 4294967296 := cfour_lt (cfour_lt (cxor_lt h x))
theorem craw_lt (l : List UInt8) : ∀ {r : Nat}, r < 4294967296 → craw r l < 4294967296 := by
  induction l with
  | nil => intro r h; exact h
  | cons x t ih => intro r h; exact ih (cbyte_lt h x)
theorem craw_app (r : Nat) (a b : List UInt8) : craw r (a ++ b) = craw (craw r a) b := by simp [craw, List.foldl_append]
theorem crc_lt (l : List UInt8) : crc l < 4294967296 := by unfold crc; omega
theorem tbl_lt : ∀ i : Fin 16, tbl.getD i.val 0 < 4294967296 := by decide +kernel

theorem rdu_ok (l : List UInt8) : ∀ (i acc v k : Nat), rdu l i acc = .ok (v, k) → i ≤ 9 → acc < 128 ^ i → i < k ∧ k ≤ i + l.length ∧ v < 18446744073709551616 ∧ k ≤ 10 := by
  induction l with
  | nil => intro i acc v k h; simp [rdu] at h
  | cons c r ih =>
    intro i acc v k h hi hacc
    rw [rdu] at h
    by_cases h1 : i = 9 ∧ 1 < c.toNat
    · rw [if_pos h1] at h; cases h
    rw [if_neg h1] at h
    by_cases h2 : 128 ≤ c.toNat
    · rw [if_pos h2] at h
      have hm : c.toNat % 128 * 128 ^ i ≤ 127 * 128 ^ i := Nat.mul_le_mul_right _ (by omega)
      have := ih (i + 1) _ v k h (by omega) (by rw [Nat.pow_succ]; omega)
      simp only [List.length_cons]
      omega
    rw [if_neg h2] at h
    by_cases h3 : c.toNat = 0 ∧ 0 < i
    · rw [if_pos h3] at h; cases h
    rw [if_neg h3] at h
    injection h with h
    injection h with hv hk
    refine ⟨by omega, by simp only [List.length_cons]; omega, ?_, by omega⟩
    rw [← hv]
    by_cases h9 : i = 9
    · subst h9
      have e : (128 : Nat) ^ 9 = 9223372036854775808 := by decide
      rw [e] at hacc ⊢
      have : c.toNat ≤ 1 := by omega
      omega
    · have h8 : 128 ^ i ≤ 128 ^ 8 := Nat.pow_le_pow_right (by omega) (by omega)
      have e : (128 : Nat) ^ 8 = 72057594037927936 := by decide
      rw [e] at h8
      have hm : c.toNat * 128 ^ i ≤ 127 * 128 ^ i := Nat.mul_le_mul_right _ (by omega)
      omega
theorem readU_ok {l : List UInt8} {at_ v p : Nat} (h : readU l at_ = .ok (v, p)) : at_ < p ∧ p ≤ l.length ∧ v < 18446744073709551616 ∧ p ≤ at_ + 10 := by
  unfold readU at h
  by_cases h1 : l.length < at_
  · rw [if_pos h1] at h; cases h
  rw [if_neg h1] at h
  cases hr : rdu (l.drop at_) 0 0 with
  | error e => rw [hr] at h; cases h
  | ok x =>
    obtain ⟨v', k⟩ := x
    rw [hr] at h
    simp only [Except.map] at h
    injection h with h
    injection h with hv hk
    have := rdu_ok _ _ _ _ _ hr (by omega) (by simp)
    rw [List.length_drop] at this
    omega

/-- where the body of the frame at at_ begins and ends; the frame is sound but for its sum -/
def rdBounds (l : List UInt8) (at_ : Nat) : Except Int (Nat × Nat) :=
  match readU l at_ with
  | .error e => .error e
  | .ok (n, p) =>
    if n = 0 then .error 14
    else if 1048576 < n then .error 13
    else if l.length < p + n + 5 then .error 10
    else if (l.getD (p + n + 4) 0).toNat ≠ 165 then .error 15
    else .ok (p, p + n)
/-- four bytes, lowest first -/
def le32 (l : List UInt8) (t : Nat) : Nat := (l.getD t 0).toNat + (l.getD (t + 1) 0).toNat * 256 + (l.getD (t + 2) 0).toNat * 65536 + (l.getD (t + 3) 0).toNat * 16777216
/-- the frame that stands at at_: its body, the place behind it -/
def rdFrame (l : List UInt8) (at_ : Nat) : Except Int (List UInt8 × Nat) :=
  match rdBounds l at_ with
  | .error e => .error e
  | .ok (f, t) => if le32 l t ≠ crc ((l.drop at_).take (t - at_)) then .error 16 else .ok ((l.drop f).take (t - f), t + 5)
theorem rdBounds_ok {l : List UInt8} {at_ f t : Nat} (h : rdBounds l at_ = .ok (f, t)) : at_ < f ∧ f < t ∧ t + 5 ≤ l.length ∧ t ≤ f + 1048576 ∧ f ≤ at_ + 10 ∧ readU l at_ = .ok (t - f, f) := by
  unfold rdBounds at h
  cases hr : readU l at_ with
  | error e => rw [hr] at h; cases h
  | ok x =>
    obtain ⟨n, p⟩ := x
    rw [hr] at h
    have hk := readU_ok hr
    dsimp only at h
    by_cases h1 : n = 0
    · rw [if_pos h1] at h; cases h
    rw [if_neg h1] at h
    by_cases h2 : 1048576 < n
    · rw [if_pos h2] at h; cases h
    rw [if_neg h2] at h
    by_cases h3 : l.length < p + n + 5
    · rw [if_pos h3] at h; cases h
    rw [if_neg h3] at h
    split at h
    · cases h
    · injection h with h
      injection h with hf ht
      subst hf
      subst ht
      refine ⟨by omega, by omega, by omega, by omega, by omega, ?_⟩
      rw [show p + n - p = n from by omega]

/-- four bytes of a number, lowest first -/
def le4 (s : Nat) : List UInt8 := [UInt8.ofNat (s % 256), UInt8.ofNat (s / 256 % 256), UInt8.ofNat (s / 65536 % 256), UInt8.ofNat (s / 16777216 % 256)]
/-- the frame of a body -/
def frameB (body : List UInt8) : List UInt8 := leb body.length ++ body ++ (le4 (crc (leb body.length ++ body)) ++ [165])
def frameOf (body : List UInt8) : Except Int (List UInt8) :=
  if 1048576 < body.length then .error 13 else if body.length = 0 then .error 14 else .ok (frameB body)
end Go.Proofs.YtamodllgeabpoaaDoor
