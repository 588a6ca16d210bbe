/- What a manifest is, in plain Lean. No program in sight. -/
import Derived.Test.YtamodllgeabpoaaDoorSpecB
namespace Go.Proofs.YtamodllgeabpoaaDoor

/-- a segment of a manifest; a manifest -/
structure Sg where
  num : Int
  size : Int
  count : Int
structure Mf where
  gen : Int
  v : Int
  next : Int
  top : Int
  segs : List Sg

/-- what a segment's size and count may be: the last one's, the others' -/
def endOk (last : Bool) (s : Sg) : Bool := if last then decide (s.size = 0) && decide (s.count = 0) else decide (1 ≤ s.size) && decide (s.size ≤ 524288) && decide (0 ≤ s.count) && decide (s.count ≤ 524288)
def segsOk (next : Int) : Int → List Sg → Bool
  | _, [] => true
  | last, s :: r => decide (last < s.num) && decide (s.num < next) && endOk r.isEmpty s && segsOk next s.num r
/-- Check -/
def chkM (m : Mf) : Int :=
  if m.gen < 1 ∨ 1099511627776 < m.gen then 80
  else if m.v < 1 ∨ 3 < m.v then 3
  else if m.next < 1 ∨ 1099511627776 < m.next then 81
  else if m.top < 0 then 86
  else if m.segs.length < 1 ∨ 128 < m.segs.length then 82
  else if segsOk m.next 0 m.segs then 0 else 83

theorem segsOk_drop {next last : Int} {l : List Sg} {k : Nat} (h : k < l.length) : segsOk next last (l.drop k) = (decide (last < (l[k]).num) && decide ((l[k]).num < next) && endOk (decide (k + 1 = l.length)) (l[k]) && segsOk next (l[k]).num (l.drop (k + 1))) := by
  rw [List.drop_eq_getElem_cons h, segsOk]
  congr 3
  rw [Bool.eq_iff_iff, List.isEmpty_iff, List.drop_eq_nil_iff, decide_eq_true_eq]
  omega

/-- may segment i of the list stand there? (the reference's words) -/
def segB (next : Int) (l : List Sg) (i : Nat) : Bool :=
  match l[i]? with
  | none => false
  | some s => decide (1 ≤ s.num) && decide (s.num < next) && (if 0 < i then decide (((l[i - 1]?).map (·.num)).getD 0 < s.num) else true) && endOk (decide (i + 1 = l.length)) s
/-- the number of the segment before the k-th; 0: there is none -/
def lastOf (l : List Sg) (k : Nat) : Int := if 0 < k then ((l[k - 1]?).map (·.num)).getD 0 else 0
theorem segB_step {next : Int} {l : List Sg} {k : Nat} (h : k < l.length) (hl : 0 ≤ lastOf l k) : segsOk next (lastOf l k) (l.drop k) = (segB next l k && segsOk next (lastOf l (k + 1)) (l.drop (k + 1))) := by
  rw [segsOk_drop h]
  have e1 : lastOf l (k + 1) = (l[k]).num := by simp [lastOf, h]
  rw [e1]
  congr 1
  unfold segB
  rw [List.getElem?_eq_getElem h]
  dsimp only
  congr 1
  unfold lastOf at *
  by_cases h0 : 0 < k
  · rw [if_pos h0] at *
    rw [if_pos h0]
    generalize ((l[k - 1]?).map (·.num)).getD 0 = q at *
    generalize (l[k]).num = n at *
    rw [Bool.eq_iff_iff]
    simp
    omega
  · rw [if_neg h0, if_neg h0, Bool.and_true]
    congr 1
theorem segB_pos {next : Int} {l : List Sg} {k : Nat} (h : segB next l k = true) : 0 ≤ lastOf l (k + 1) := by
  unfold segB at h
  cases hk : l[k]? with
  | none => rw [hk] at h; cases h
  | some s =>
    rw [hk] at h
    simp at h
    simp [lastOf, hk]
    omega

/-- the numbers of a whole manifest fit in an int -/
def i64 (n : Int) : Prop := -9223372036854775808 ≤ n ∧ n ≤ 9223372036854775807
structure Mf.wf (m : Mf) : Prop where
  gen : i64 m.gen
  v : i64 m.v
  next : i64 m.next
  top : i64 m.top
  segs : ∀ s ∈ m.segs, i64 s.num ∧ i64 s.size ∧ i64 s.count
/-- what stands in the body behind its first byte -/
def segNums : Int → List Sg → List Nat
  | _, [] => []
  | last, s :: r => (s.num - last).toNat :: s.size.toNat :: s.count.toNat :: segNums s.num r
def headNums (m : Mf) : List Nat := [m.gen.toNat, m.v.toNat, m.next.toNat, m.top.toNat, m.segs.length]
def encBody (m : Mf) : List UInt8 := 77 :: (headNums m ++ segNums 0 m.segs).flatMap leb
/-- Encode -/
def encM (m : Mf) : Except Int (List UInt8) := if chkM m ≠ 0 then .error (chkM m) else frameOf (encBody m)

theorem chkM_ok {m : Mf} (h : chkM m = 0) : 1 ≤ m.gen ∧ m.gen ≤ 1099511627776 ∧ 1 ≤ m.v ∧ m.v ≤ 3 ∧ 1 ≤ m.next ∧ m.next ≤ 1099511627776 ∧ 0 ≤ m.top ∧ 1 ≤ m.segs.length ∧ m.segs.length ≤ 128 ∧ segsOk m.next 0 m.segs = true := by
  unfold chkM at h
  by_cases h1 : m.gen < 1 ∨ 1099511627776 < m.gen
  · rw [if_pos h1] at h; omega
  rw [if_neg h1] at h
  by_cases h2 : m.v < 1 ∨ 3 < m.v
  · rw [if_pos h2] at h; omega
  rw [if_neg h2] at h
  by_cases h3 : m.next < 1 ∨ 1099511627776 < m.next
  · rw [if_pos h3] at h; omega
  rw [if_neg h3] at h
  by_cases h4 : m.top < 0
  · rw [if_pos h4] at h; omega
  rw [if_neg h4] at h
  by_cases h5 : m.segs.length < 1 ∨ 128 < m.segs.length
  · rw [if_pos h5] at h; omega
  rw [if_neg h5] at h
  by_cases h6 : segsOk m.next 0 m.segs = true
  · exact ⟨by omega, by omega, by omega, by omega, by omega, by omega, by omega, by omega, by omega, h6⟩
  · rw [if_neg h6] at h; omega
theorem endOk_range {b : Bool} {s : Sg} (h : endOk b s = true) : 0 ≤ s.size ∧ s.size ≤ 524288 ∧ 0 ≤ s.count ∧ s.count ≤ 524288 := by
  unfold endOk at h
  cases b <;> simp at h <;> omega
theorem segsOk_range {next : Int} (l : List Sg) : ∀ {last : Int}, 0 ≤ last → next ≤ 1099511627776 → segsOk next last l = true → ∀ k (h : k < l.length), lastOf l k ≤ 1099511627776 ∧ (0 < k → 0 ≤ lastOf l k) ∧ (if 0 < k then lastOf l k else last) < (l[k]).num ∧ (l[k]).num < next ∧ 0 ≤ (l[k]).size ∧ (l[k]).size ≤ 524288 ∧ 0 ≤ (l[k]).count ∧ (l[k]).count ≤ 524288 := by
  induction l with
  | nil => intro last _ _ _ k h; simp at h
  | cons s r ih =>
    intro last hl hn h k hk
    simp only [segsOk, Bool.and_eq_true, decide_eq_true_eq] at h
    obtain ⟨⟨⟨a1, a2⟩, a3⟩, a4⟩ := h
    have hr := endOk_range a3
    cases k with
    | zero => simp [lastOf]; omega
    | succ k =>
      have hk' : k < r.length := by simp at hk; omega
      have := ih (last := s.num) (by omega) hn a4 k hk'
      simp only [List.getElem_cons_succ]
      by_cases h0 : 0 < k
      · have e : lastOf (s :: r) (k + 1) = lastOf r k := by
          obtain ⟨j, rfl⟩ : ∃ j, k = j + 1 := ⟨k - 1, by omega⟩
          simp [lastOf]
        rw [e]
        rw [if_pos h0] at this
        simp only [show 0 < k + 1 from by omega, if_true]
        have := this.2.1 h0
        omega
      · have hk0 : k = 0 := by omega
        subst hk0
        have e : lastOf (s :: r) (0 + 1) = s.num := by simp [lastOf]
        rw [e]
        simp only [Nat.lt_irrefl, if_false] at this
        simp only [show 0 < 0 + 1 from by omega, if_true]
        omega
theorem segNums_take (l : List Sg) : ∀ (last : Int) (k : Nat) (h : k < l.length), (segNums last (l.take (k + 1))) = segNums last (l.take k) ++ [((l[k]).num - (if 0 < k then lastOf l k else last)).toNat, (l[k]).size.toNat, (l[k]).count.toNat] := by
  induction l with
  | nil => intro last k h; simp at h
  | cons s r ih =>
    intro last k h
    cases k with
    | zero => simp [segNums]
    | succ k =>
      have hk' : k < r.length := by simp at h; omega
      simp only [List.take_succ_cons, segNums, List.getElem_cons_succ, List.cons_append]
      rw [ih s.num k hk']
      by_cases h0 : 0 < k
      · have e : lastOf (s :: r) (k + 1) = lastOf r k := by
          obtain ⟨j, rfl⟩ : ∃ j, k = j + 1 := ⟨k - 1, by omega⟩
          simp [lastOf]
        rw [e]
        simp [h0]
      · have hk0 : k = 0 := by omega
        subst hk0
        simp [lastOf]
theorem flatMap_leb_len (l : List Nat) (h : ∀ x ∈ l, x < 18446744073709551616) : (l.flatMap leb).length ≤ 10 * l.length := by
  induction l with
  | nil => simp
  | cons x r ih =>
    simp only [List.flatMap_cons, List.length_append, List.length_cons]
    have h1 := leb_ten (n := x) ⟨h x (by simp)⟩
    have h2 := ih fun y hy => h y (by simp [hy])
    omega
theorem segNums_len (l : List Sg) : ∀ last, (segNums last l).length = 3 * l.length := by
  induction l with
  | nil => intro last; rfl
  | cons s r ih => intro last; simp only [segNums, List.length_cons, ih]; omega
end Go.Proofs.YtamodllgeabpoaaDoor
