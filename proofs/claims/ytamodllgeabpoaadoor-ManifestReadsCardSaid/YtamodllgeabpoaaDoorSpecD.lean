/- What the decoders compute, in plain Lean: numbers one behind the other, heads, segments. No program in sight. -/
import Derived.Test.YtamodllgeabpoaaDoorSpecC
import Derived.Test.YtamodllgeabpoaaDoorWireB
namespace Go.Proofs.YtamodllgeabpoaaDoor

/-- a number of the body that, added to before, still fits in an int -/
def rdN (l : List UInt8) (at_ before : Nat) : Except Int (Nat × Nat) :=
  match readU l at_ with
  | .error e => .error e
  | .ok (v, p) => if 9223372036854775807 - before < v then .error 85 else .ok (before + v, p)
theorem rdN_ok {l : List UInt8} {at_ before n p : Nat} (h : rdN l at_ before = .ok (n, p)) (hb : before ≤ 9223372036854775807) : at_ < p ∧ p ≤ l.length ∧ before ≤ n ∧ n ≤ 9223372036854775807 ∧ readU l at_ = .ok (n - before, p) := by
  unfold rdN at h
  cases hu : readU l at_ with
  | error e => rw [hu] at h; cases h
  | ok x =>
    obtain ⟨v, q⟩ := x
    rw [hu] at h
    dsimp only at h
    obtain ⟨k1, k2, k3, k4⟩ := readU_ok hu
    split at h
    · cases h
    · injection h with h; injection h with h1 h2; subst h1; subst h2
      exact ⟨k1, k2, by omega, by omega, by rw [Nat.add_sub_cancel_left]⟩
theorem rdN_err {l : List UInt8} {at_ before : Nat} {e : Int} (h : rdN l at_ before = .error e) : e ≠ 0 := by
  unfold rdN at h
  cases hu : readU l at_ with
  | error e' => rw [hu] at h; injection h with h; subst h; exact readU_err hu
  | ok x =>
    obtain ⟨v, q⟩ := x
    rw [hu] at h
    dsimp only at h
    split at h
    · injection h; omega
    · cases h

/-- k numbers -/
def rdHeads (l : List UInt8) : Nat → Nat → List Nat → Except Int (List Nat × Nat)
  | 0, at_, acc => .ok (acc, at_)
  | k + 1, at_, acc => (rdN l at_ 0).bind fun (n, p) => rdHeads l k p (acc ++ [n])
/-- k segments -/
def rdSegs (l : List UInt8) : Nat → Nat → Nat → List Sg → Except Int (List Sg × Nat)
  | 0, _, at_, acc => .ok (acc, at_)
  | k + 1, base, at_, acc => (rdN l at_ base).bind fun (n, p) => (rdN l p 0).bind fun (s, q) => (rdN l q 0).bind fun (c, r) => rdSegs l k n r (acc ++ [⟨n, s, c⟩])
/-- a body without its frame -/
def decBody (l : List UInt8) : Except Int Mf :=
  (rdHeads l 5 1 []).bind fun (hs, at_) => (rdSegs l (hs.getD 4 0) 0 at_ []).bind fun (segs, p) =>
    if p ≠ l.length then .error 85
    else if chkM ⟨hs.getD 0 0, hs.getD 1 0, hs.getD 2 0, hs.getD 3 0, segs⟩ ≠ 0 then .error (chkM ⟨hs.getD 0 0, hs.getD 1 0, hs.getD 2 0, hs.getD 3 0, segs⟩)
    else .ok ⟨hs.getD 0 0, hs.getD 1 0, hs.getD 2 0, hs.getD 3 0, segs⟩
/-- Decode -/
def decM (b : List UInt8) : Except Int Mf :=
  (rdFrame b 0).bind fun (body, q) => if q ≠ b.length ∨ body.getD 0 0 ≠ 77 then .error 85 else decBody body

/-- the program's reader of numbers, once it has failed, answers 0 and stays -/
def nx (l : List UInt8) (at_ : Nat) (e : Int) : Nat × Nat × Int :=
  if e ≠ 0 then (0, at_, e) else match rdN l at_ 0 with | .ok (n, p) => (n, p, 0) | .error e => (0, at_, e)
theorem nx_bad {l : List UInt8} {at_ : Nat} {e : Int} (h : e ≠ 0) : nx l at_ e = (0, at_, e) := by rw [nx, if_pos h]
theorem nx_back {l : List UInt8} {at_ n p : Nat} {e : Int} (h : nx l at_ e = (n, p, 0)) : e = 0 ∧ rdN l at_ 0 = .ok (n, p) := by
  unfold nx at h
  split at h
  · injection h with h1 h2; injection h2 with h2 h3; omega
  · refine ⟨by omega, ?_⟩
    cases hu : rdN l at_ 0 with
    | error e => rw [hu] at h; injection h with h1 h2; injection h2 with h2 h3; exact absurd h3 (rdN_err hu)
    | ok x => obtain ⟨v, q⟩ := x; rw [hu] at h; injection h with h1 h2; injection h2 with h2 h3; subst h1; subst h2; rfl
theorem nx_fail {l : List UInt8} {at_ n p : Nat} {e e' : Int} (h : nx l at_ e = (n, p, e')) (h0 : e' ≠ 0) : n = 0 ∧ p = at_ ∧ (e = e' ∨ (e = 0 ∧ rdN l at_ 0 = .error e')) := by
  unfold nx at h
  split at h
  · injection h with h1 h2; injection h2 with h2 h3; exact ⟨h1.symm, h2.symm, .inl h3⟩
  · cases hu : rdN l at_ 0 with
    | error er => rw [hu] at h; injection h with h1 h2; injection h2 with h2 h3; subst h3; exact ⟨h1.symm, h2.symm, .inr ⟨by omega, rfl⟩⟩
    | ok x => obtain ⟨v, q⟩ := x; rw [hu] at h; injection h with h1 h2; injection h2 with h2 h3; exact absurd h3.symm h0
/-- one step of the heads, failed or not -/
theorem heads_nx {l : List UInt8} {at_ n p : Nat} {e e' : Int} (h : nx l at_ e = (n, p, e')) (k : Nat) (acc : List Nat) (R : Except Int (List Nat × Nat))
    (hR : if e = 0 then R = rdHeads l (k + 1) at_ acc else R = .error e) : if e' = 0 then R = rdHeads l k p (acc ++ [n]) else R = .error e' := by
  by_cases h0 : e' = 0
  · rw [if_pos h0]
    subst h0
    obtain ⟨rfl, hu⟩ := nx_back h
    rw [if_pos rfl, rdHeads, hu] at hR
    exact hR
  · rw [if_neg h0]
    obtain ⟨_, _, rfl | ⟨rfl, hu⟩⟩ := nx_fail h h0
    · rwa [if_neg h0] at hR
    · rw [if_pos rfl, rdHeads, hu] at hR
      exact hR
/-- where the program stands in the segments: with an error the answer is that error, else what is left of the work -/
def SegAt (l : List UInt8) (R : Except Int (List Sg × Nat)) (left base at_ : Nat) (e : Int) (acc : List Sg) : Prop :=
  if e = 0 then R = rdSegs l left base at_ acc else R = .error e
/-- one segment as the program reads it: its first number's step, what it makes of it, then two more -/
theorem segAt_nx {l : List UInt8} {R : Except Int (List Sg × Nat)} {k base at_ n p s q c r : Nat} {e1 e2 e3 e4 : Int} {acc : List Sg} {base' : Int} (hb : base ≤ 9223372036854775807)
    (hR : SegAt l R (k + 1) base at_ 0 acc) (h1 : nx l at_ 0 = (n, p, e1)) (h2 : e2 = if e1 = 0 ∧ 9223372036854775807 - base < n then 85 else e1) (h3 : nx l p e2 = (s, q, e3)) (h4 : nx l q e3 = (c, r, e4))
    (h5 : e2 = 0 → base' = base + n) : (e4 = 0 → base' = ((base + n : Nat) : Int) ∧ base + n ≤ 9223372036854775807 ∧ SegAt l R k (base + n) r 0 (acc ++ [⟨base', s, c⟩])) ∧ (e4 ≠ 0 → R = .error e4) := by
  unfold SegAt at *
  rw [if_pos rfl, rdSegs] at hR
  have key : rdN l at_ base = if e2 = 0 then .ok (base + n, p) else .error e2 := by
    by_cases he : e1 = 0
    · subst he
      obtain ⟨_, hu⟩ := nx_back h1
      obtain ⟨_, _, _, _, hu2⟩ := rdN_ok hu (by omega)
      rw [Nat.sub_zero] at hu2
      unfold rdN
      rw [hu2]
      dsimp only
      by_cases hn : 9223372036854775807 - base < n
      · have g : e2 = 85 := by rw [h2, if_pos ⟨rfl, hn⟩]
        rw [if_pos hn, g, if_neg (by omega)]
      · have g : e2 = 0 := by rw [h2, if_neg (fun h => hn h.2)]
        rw [if_neg hn, g, if_pos rfl]
    · rw [if_neg (fun h => he h.1)] at h2
      subst h2
      obtain ⟨_, _, h | ⟨_, hu⟩⟩ := nx_fail h1 he
      · exact absurd h.symm he
      · rw [if_neg he]
        unfold rdN at hu ⊢
        cases hr : readU l at_ with
        | error e => rw [hr] at hu; injection hu with hu; subst hu; rfl
        | ok x =>
          obtain ⟨v, z⟩ := x
          rw [hr] at hu
          dsimp only at hu ⊢
          split at hu
          · injection hu with hu; subst hu; rw [if_pos (by omega)]
          · cases hu
  rw [key] at hR
  by_cases g2 : e2 = 0
  · subst g2
    rw [if_pos rfl] at hR key
    have hn := rdN_ok key hb
    by_cases g3 : e3 = 0
    · subst g3
      obtain ⟨_, hu3⟩ := nx_back h3
      by_cases g4 : e4 = 0
      · subst g4
        obtain ⟨_, hu4⟩ := nx_back h4
        refine ⟨fun _ => ⟨by rw [h5 rfl]; omega, hn.2.2.2.1, ?_⟩, fun h => absurd rfl h⟩
        rw [if_pos rfl, hR, h5 rfl]
        simp only [Except.bind, hu3, hu4]
        rfl
      · refine ⟨fun h => absurd h g4, fun _ => ?_⟩
        obtain ⟨_, _, h | ⟨_, hu4⟩⟩ := nx_fail h4 g4
        · exact absurd h.symm g4
        · rw [hR]; simp only [Except.bind, hu3, hu4]
    · obtain ⟨_, _, h | ⟨_, hu3⟩⟩ := nx_fail h3 g3
      · exact absurd h.symm g3
      rw [nx_bad g3] at h4
      injection h4 with _ h4; injection h4 with _ h4; subst h4
      refine ⟨fun h => absurd h g3, fun _ => ?_⟩
      rw [hR]; simp only [Except.bind, hu3]
  · rw [if_neg g2] at hR
    rw [nx_bad g2] at h3
    injection h3 with _ h3; injection h3 with _ h3; subst h3
    rw [nx_bad g2] at h4
    injection h4 with _ h4; injection h4 with _ h4; subst h4
    exact ⟨fun h => absurd h g2, fun _ => hR⟩
theorem segAt_step {l : List UInt8} {R : Except Int (List Sg × Nat)} {k base at_ n p s q c r n3 : Nat} {e1 e2 e3 e4 : Int} {acc : List Sg} {base' : Int} (hb : base ≤ 9223372036854775807) (hn3 : n3 * 3 ≤ at_)
    (hR : SegAt l R (k + 1) base at_ 0 acc) (h1 : nx l at_ 0 = (n, p, e1)) (h2 : e2 = if e1 = 0 ∧ 9223372036854775807 - base < n then 85 else e1) (h3 : nx l p e2 = (s, q, e3)) (h4 : nx l q e3 = (c, r, e4))
    (h5 : e2 = 0 → base' = base + n) : SegAt l R k (base + n) r e4 (acc ++ [⟨base', s, c⟩]) ∧ (e4 = 0 → base' = ((base + n : Nat) : Int) ∧ base + n ≤ 9223372036854775807 ∧ (n3 + 1) * 3 ≤ r) := by
  obtain ⟨g1, g2⟩ := segAt_nx hb hR h1 h2 h3 h4 h5
  by_cases h0 : e4 = 0
  · subst h0
    obtain ⟨a1, a2, a3⟩ := g1 rfl
    refine ⟨a3, fun _ => ⟨a1, a2, ?_⟩⟩
    obtain ⟨rfl, u4⟩ := nx_back h4
    obtain ⟨rfl, u3⟩ := nx_back h3
    have he1 : e1 = 0 := by
      by_cases he : e1 = 0
      · exact he
      · rw [if_neg (fun h => he h.1)] at h2; omega
    subst he1
    obtain ⟨_, u1⟩ := nx_back h1
    have := rdN_ok u4 (by omega)
    have := rdN_ok u3 (by omega)
    have := rdN_ok u1 (by omega)
    omega
  · exact ⟨by unfold SegAt; rw [if_neg h0]; exact g2 h0, fun h => absurd h h0⟩
end Go.Proofs.YtamodllgeabpoaaDoor
