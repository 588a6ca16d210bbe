/- Plain facts on numbers and frames: there is one writing of each. No program in sight. -/
import Derived.Test.YtamodllgeabpoaaDoorSpec
namespace Go.Proofs.YtamodllgeabpoaaDoor

/-- what is read is how it is written -/
theorem rdu_leb (l : List UInt8) : ∀ (i acc v k : Nat), rdu l i acc = .ok (v, k) → ∃ m, v = acc + m * 128 ^ i ∧ l.take (k - i) = leb m ∧ (0 < i → 0 < m) ∧ k = i + (leb m).length := by
  induction l with
  | nil => intro i acc v k h; simp [rdu] at h
  | cons c r ih =>
    intro i acc v k h
    have hc := c.toNat_lt
    rw [rdu] at h
    by_cases h1 : i = 9 ∧ 1 < c.toNat
    · rw [if_pos h1] at h; cases h
    rw [if_neg h1] at h
    by_cases h2 : 128 ≤ c.toNat
    · rw [if_pos h2] at h
      obtain ⟨m, hv, ht, hp, hk⟩ := ih _ _ _ _ h
      have hm := hp (by omega)
      have hl := leb_pos m
      have e : leb (c.toNat % 128 + 128 * m) = c :: leb m := by
        rw [leb_ge (by omega), show (c.toNat % 128 + 128 * m) % 128 + 128 = c.toNat from by omega, show (c.toNat % 128 + 128 * m) / 128 = m from by omega]
        simp
      refine ⟨c.toNat % 128 + 128 * m, ?_, ?_, fun _ => by omega, ?_⟩
      · rw [hv, Nat.pow_succ, Nat.add_mul, Nat.add_assoc]; congr 2; rw [Nat.mul_comm 128 m, Nat.mul_assoc, Nat.mul_comm 128]
      · rw [e, show k - i = (k - (i + 1)) + 1 from by omega, List.take_succ_cons, ht]
      · rw [e, List.length_cons]; omega
    rw [if_neg h2] at h
    by_cases h3 : c.toNat = 0 ∧ 0 < i
    · rw [if_pos h3] at h; cases h
    rw [if_neg h3] at h
    injection h with h
    injection h with hv hk
    refine ⟨c.toNat, hv.symm, ?_, fun _ => by omega, ?_⟩
    · rw [← hk, show i + 1 - i = 0 + 1 from by omega, List.take_succ_cons, leb_lt (by omega)]; simp
    · rw [leb_lt (by omega)]; simp; omega
theorem readU_leb {l : List UInt8} {at_ n p : Nat} (h : readU l at_ = .ok (n, p)) : (l.drop at_).take (p - at_) = leb n ∧ p = at_ + (leb n).length := by
  unfold readU at h
  by_cases h1 : l.length < at_
  · rw [if_pos h1] at h; cases h
  rw [if_neg h1] at h
  cases hr : rdu (l.drop at_) 0 0 with
  | error e => rw [hr] at h; cases h
  | ok x =>
    obtain ⟨v', k⟩ := x
    rw [hr] at h
    simp only [Except.map] at h
    injection h with h
    injection h with hv hk
    obtain ⟨m, hm, ht, _, hk2⟩ := rdu_leb _ _ _ _ _ hr
    have : m = n := by omega
    subst this
    exact ⟨by rw [show p - at_ = k - 0 from by omega]; exact ht, by omega⟩
/-- what is written is read -/
theorem rdu_of_leb (j : Nat) : ∀ (m : Nat) (rest : List UInt8) (i acc : Nat), m < 128 ^ (j + 1) → (0 < i → 0 < m) → i + (leb m).length ≤ 10 → (i + (leb m).length = 10 → m / 128 ^ (9 - i) ≤ 1) → rdu (leb m ++ rest) i acc = .ok (acc + m * 128 ^ i, i + (leb m).length) := by
  induction j with
  | zero =>
    intro m rest i acc hm hp hl ht
    have hm1 : m < 128 := by simpa using hm
    rw [leb_lt hm1] at hl ht ⊢
    have e : (UInt8.ofNat m).toNat = m := by rw [UInt8.toNat_ofNat']; omega
    simp only [List.cons_append, List.nil_append, List.length_cons, List.length_nil] at hl ht ⊢
    rw [rdu, e, if_neg, if_neg (by omega), if_neg (by omega)]
    rintro ⟨h9, h1⟩
    subst h9
    have := ht (by omega)
    simp at this
    omega
  | succ j ih =>
    intro m rest i acc hm hp hl ht
    by_cases hm1 : m < 128
    · rw [leb_lt hm1] at hl ht ⊢
      have e : (UInt8.ofNat m).toNat = m := by rw [UInt8.toNat_ofNat']; omega
      simp only [List.cons_append, List.nil_append, List.length_cons, List.length_nil] at hl ht ⊢
      rw [rdu, e, if_neg, if_neg (by omega), if_neg (by omega)]
      rintro ⟨h9, h1⟩
      subst h9
      have := ht (by omega)
      simp at this
      omega
    · rw [leb_ge (by omega)] at hl ht ⊢
      simp only [List.cons_append, List.length_cons] at hl ht ⊢
      have e : (UInt8.ofNat (m % 128 + 128)).toNat = m % 128 + 128 := by rw [UInt8.toNat_ofNat']; omega
      have hlp := leb_pos (m / 128)
      rw [rdu, e, if_neg (by omega), if_pos (by omega), ih (m / 128) rest (i + 1) _ (by rw [Nat.pow_succ] at hm; exact Nat.div_lt_of_lt_mul (by omega)) (fun _ => by omega) (by omega) ?_]
      · congr 1
        refine Prod.ext ?_ (by simp; omega)
        show acc + (m % 128 + 128) % 128 * 128 ^ i + m / 128 * 128 ^ (i + 1) = acc + m * 128 ^ i
        rw [Nat.pow_succ, Nat.add_mod_right, Nat.mod_mod, show m / 128 * (128 ^ i * 128) = 128 * (m / 128) * 128 ^ i from by ac_rfl, Nat.add_assoc, ← Nat.add_mul, Nat.mod_add_div]
      · intro h10
        have h := ht (by omega)
        by_cases hi : 9 ≤ i
        · omega
        · rw [show 9 - i = (9 - (i + 1)) + 1 from by omega, Nat.pow_succ, Nat.mul_comm, ← Nat.div_div_eq_div_mul] at h
          exact h
theorem leb_len_top {m : Nat} (h : m < 18446744073709551616) : (leb m).length = 10 → m / 128 ^ 9 ≤ 1 := by
  intro _
  have e : (128 : Nat) ^ 9 = 9223372036854775808 := by decide
  rw [e]; omega
theorem readU_of_leb {pre rest : List UInt8} {n : Nat} (h : n < 18446744073709551616) : readU (pre ++ (leb n ++ rest)) pre.length = .ok (n, pre.length + (leb n).length) := by
  have hl := leb_ten (n := n) ⟨h⟩
  unfold readU
  rw [if_neg (by simp), List.drop_left, rdu_of_leb 9 n rest 0 0 (by omega) (by omega) (by omega) (by intro h10; exact leb_len_top h (by omega))]
  simp [Except.map]

theorem le4_le32 (l : List UInt8) (t : Nat) (h : t + 4 ≤ l.length) : le4 (le32 l t) = (l.drop t).take 4 := by
  have e : (l.drop t).take 4 = [l.getD t 0, l.getD (t + 1) 0, l.getD (t + 2) 0, l.getD (t + 3) 0] := by
    apply List.ext_getElem
    · simp; omega
    · intro i h1 h2
      simp only [List.length_cons, List.length_nil] at h2
      have hi : i = 0 ∨ i = 1 ∨ i = 2 ∨ i = 3 := by omega
      rcases hi with rfl | rfl | rfl | rfl <;> simp [List.getD_eq_getElem?_getD] <;> rw [List.getElem?_eq_getElem (by omega)] <;> rfl
  have h0 := (l.getD t 0).toNat_lt
  have h1 := (l.getD (t + 1) 0).toNat_lt
  have h2 := (l.getD (t + 2) 0).toNat_lt
  have h3 := (l.getD (t + 3) 0).toNat_lt
  rw [e, le4, le32]
  generalize l.getD t 0 = a at *
  generalize l.getD (t + 1) 0 = b at *
  generalize l.getD (t + 2) 0 = c at *
  generalize l.getD (t + 3) 0 = d at *
  have key : ∀ (x : UInt8) (n : Nat), n % 256 = x.toNat → UInt8.ofNat (n % 256) = x := by intro x n hn; rw [hn]; simp
  rw [key a _ (by omega), key b _ (by omega), key c _ (by omega), key d _ (by omega)]
theorem le4_inj {a b : Nat} (ha : a < 4294967296) (hb : b < 4294967296) (h : le4 a = le4 b) : a = b := by
  simp only [le4, List.cons.injEq] at h
  obtain ⟨h0, h1, h2, h3, _⟩ := h
  have f : ∀ x y : Nat, UInt8.ofNat (x % 256) = UInt8.ofNat (y % 256) → x % 256 = y % 256 := by
    intro x y h
    have := congrArg UInt8.toNat h
    simp only [UInt8.toNat_ofNat'] at this
    omega
  have := f _ _ h0
  have := f _ _ h1
  have := f _ _ h2
  have := f _ _ h3
  omega
theorem le32_lt (l : List UInt8) (t : Nat) : le32 l t < 4294967296 := by
  have h0 := (l.getD t 0).toNat_lt
  have h1 := (l.getD (t + 1) 0).toNat_lt
  have h2 := (l.getD (t + 2) 0).toNat_lt
  have h3 := (l.getD (t + 3) 0).toNat_lt
  unfold le32
  omega
theorem le4_len (s : Nat) : (le4 s).length = 4 := rfl
theorem frameB_len (b : List UInt8) : (frameB b).length = (leb b.length).length + b.length + 5 := by simp [frameB, le4_len]; omega

/-- the frame that is read stands there as it is written -/
theorem rdFrame_iff {l : List UInt8} {at_ f t : Nat} (h : rdBounds l at_ = .ok (f, t)) (hm : (l.getD (t + 4) 0) = 165) :
    (l.drop at_).take (t + 5 - at_) = frameB ((l.drop f).take (t - f)) ↔ le32 l t = crc ((l.drop at_).take (t - at_)) := by
  obtain ⟨k1, k2, k3, k4, k5, hu⟩ := rdBounds_ok h
  obtain ⟨hle, hf⟩ := readU_leb hu
  have hbl : ((l.drop f).take (t - f)).length = t - f := by simp; omega
  have e1 : (l.drop at_).take (t - at_) = leb (t - f) ++ (l.drop f).take (t - f) := by
    rw [show t - at_ = (f - at_) + (t - f) from by omega, List.take_add, hle, List.drop_drop, show at_ + (f - at_) = f from by omega]
  have e2 : (l.drop at_).take (t + 5 - at_) = (l.drop at_).take (t - at_) ++ ((l.drop t).take 4 ++ [165]) := by
    rw [show t + 5 - at_ = (t - at_) + (4 + 1) from by omega, List.take_add, List.drop_drop, show at_ + (t - at_) = t from by omega, List.take_add, List.drop_drop]
    congr 2
    rw [List.drop_eq_getElem_cons (show t + 4 < l.length by omega), show (1 : Nat) = 0 + 1 from rfl, List.take_succ_cons, List.take_zero, ← hm, List.getD_eq_getElem?_getD, List.getElem?_eq_getElem (by omega)]; rfl
  rw [e2, frameB, hbl, ← e1, ← le4_le32 l t (by omega)]
  constructor
  · intro hh
    have h1 := List.append_cancel_left hh
    exact le4_inj (le32_lt l t) (crc_lt _) (List.append_cancel_right h1)
  · intro hh; rw [hh]
end Go.Proofs.YtamodllgeabpoaaDoor
