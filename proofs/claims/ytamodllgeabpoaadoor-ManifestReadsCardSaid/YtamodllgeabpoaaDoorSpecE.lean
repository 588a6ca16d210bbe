/- What is encoded decodes to itself, and what decodes is the encoding of what it decodes to. No program in sight. -/
import Derived.Test.YtamodllgeabpoaaDoorSpecD
namespace Go.Proofs.YtamodllgeabpoaaDoor

theorem lt_leb_len {n : Nat} : 0 < (leb n).length := leb_pos n
theorem rdFrame_frameB {body : List UInt8} (h0 : 0 < body.length) (h1 : body.length ≤ 1048576) : rdFrame (frameB body) 0 = .ok (body, (frameB body).length) := by
  have hlen := frameB_len body
  have hb : rdBounds (frameB body) 0 = .ok ((leb body.length).length, (leb body.length).length + body.length) := by
    have hu : readU (frameB body) 0 = .ok (body.length, (leb body.length).length) := by
      have := readU_of_leb (pre := []) (rest := body ++ (le4 (crc (leb body.length ++ body)) ++ [165])) (n := body.length) (by omega)
      simpa [frameB] using this
    unfold rdBounds
    rw [hu]
    dsimp only
    rw [if_neg (by omega), if_neg (by omega), if_neg (by omega)]
    have hg : (frameB body).getD ((leb body.length).length + body.length + 4) 0 = 165 := by
      unfold frameB
      rw [List.getD_eq_getElem?_getD, List.getElem?_append_right (by simp), List.getElem?_append_right (by simp [le4_len])]
      simp [le4_len]
    rw [hg, if_neg (by decide)]
  have hg : (frameB body).getD ((leb body.length).length + body.length + 4) 0 = 165 := by
    unfold frameB
    rw [List.getD_eq_getElem?_getD, List.getElem?_append_right (by simp), List.getElem?_append_right (by simp [le4_len])]
    simp [le4_len]
  have hbody : ((frameB body).drop (leb body.length).length).take ((leb body.length).length + body.length - (leb body.length).length) = body := by
    unfold frameB
    rw [Nat.add_sub_cancel_left, List.append_assoc, List.drop_left, List.take_left]
  have hi := (rdFrame_iff hb hg).1 (by rw [hbody, List.drop_zero, Nat.sub_zero, List.take_of_length_le (by omega)])
  unfold rdFrame
  rw [hb]
  dsimp only
  rw [if_neg (by rw [hi]; simp), hbody]
  congr 2
  omega
theorem rdFrame_frameB_back {b body : List UInt8} (h : rdFrame b 0 = .ok (body, b.length)) : b = frameB body ∧ 0 < body.length ∧ body.length ≤ 1048576 := by
  unfold rdFrame at h
  cases hu : rdBounds b 0 with
  | error e => rw [hu] at h; cases h
  | ok x =>
    obtain ⟨f, t⟩ := x
    rw [hu] at h
    obtain ⟨k1, k2, k3, k4, k5, k6⟩ := rdBounds_ok hu
    dsimp only at h
    split at h
    · cases h
    rename_i hc
    injection h with h; injection h with h1 h2
    have hm : b.getD (t + 4) 0 = 165 := by
      unfold rdBounds at hu
      rw [k6] at hu
      dsimp only at hu
      rw [if_neg (by omega), if_neg (by omega), if_neg (by omega)] at hu
      split at hu
      · cases hu
      · rename_i h165
        rw [show f + (t - f) + 4 = t + 4 from by omega] at h165
        exact UInt8.toNat_inj.1 (by simpa using h165)
    have hi := (rdFrame_iff hu hm).2 (by simpa using hc)
    rw [List.drop_zero, Nat.sub_zero, List.take_of_length_le (by omega), h1] at hi
    refine ⟨hi, ?_⟩
    subst h1
    simp
    omega

theorem rdN_of_leb {pre rest : List UInt8} {v before : Nat} (h : before + v ≤ 9223372036854775807) : rdN (pre ++ (leb v ++ rest)) pre.length before = .ok (before + v, pre.length + (leb v).length) := by
  unfold rdN
  rw [readU_of_leb (by omega)]
  dsimp only
  rw [if_neg (by omega)]
theorem rdHeads_of (ns : List Nat) : ∀ (pre rest : List UInt8) (acc : List Nat), (∀ x ∈ ns, x ≤ 9223372036854775807) → rdHeads (pre ++ (ns.flatMap leb ++ rest)) ns.length pre.length acc = .ok (acc ++ ns, pre.length + (ns.flatMap leb).length) := by
  induction ns with
  | nil => intro pre rest acc _; simp [rdHeads]
  | cons x r ih =>
    intro pre rest acc h
    rw [List.length_cons, rdHeads, List.flatMap_cons, List.append_assoc, rdN_of_leb (by have := h x (by simp); omega)]
    have := ih (pre ++ leb x) rest (acc ++ [x]) fun y hy => h y (by simp [hy])
    simp only [List.length_append, List.append_assoc] at this
    simp only [Except.bind, Nat.zero_add]
    rw [this]
    simp
    omega
theorem rdSegs_of (next : Int) (segs : List Sg) : ∀ (base : Nat) (pre rest : List UInt8) (acc : List Sg), next ≤ 1099511627776 → segsOk next base segs = true →
    rdSegs (pre ++ ((segNums base segs).flatMap leb ++ rest)) segs.length base pre.length acc = .ok (acc ++ segs, pre.length + ((segNums base segs).flatMap leb).length) := by
  induction segs with
  | nil => intro base pre rest acc _ _; simp [rdSegs, segNums]
  | cons s r ih =>
    intro base pre rest acc hn h
    simp only [segsOk, Bool.and_eq_true, decide_eq_true_eq] at h
    obtain ⟨⟨⟨a1, a2⟩, a3⟩, a4⟩ := h
    have hr := endOk_range a3
    obtain ⟨num, size, count⟩ := s
    dsimp only at a1 a2 a4 hr
    obtain ⟨num, rfl⟩ := Int.eq_ofNat_of_zero_le (show 0 ≤ num by omega)
    obtain ⟨size, rfl⟩ := Int.eq_ofNat_of_zero_le (show 0 ≤ size by omega)
    obtain ⟨count, rfl⟩ := Int.eq_ofNat_of_zero_le (show 0 ≤ count by omega)
    have ih2 := ih num (pre ++ leb (num - base) ++ leb size ++ leb count) rest (acc ++ [⟨num, size, count⟩]) hn a4
    simp only [List.length_append, List.append_assoc, Nat.add_assoc] at ih2
    have e1 : ((num : Int) - base).toNat = num - base := by omega
    simp only [segNums, List.length_cons, rdSegs, List.flatMap_cons, e1, Int.toNat_natCast, List.append_assoc]
    rw [rdN_of_leb (by omega)]
    simp only [Except.bind]
    have h2 := rdN_of_leb (pre := pre ++ leb (num - base)) (rest := leb count ++ ((segNums num r).flatMap leb ++ rest)) (v := size) (before := 0) (by omega)
    simp only [List.length_append, List.append_assoc, Nat.zero_add] at h2
    rw [h2]
    have h3 := rdN_of_leb (pre := pre ++ leb (num - base) ++ leb size) (rest := (segNums num r).flatMap leb ++ rest) (v := count) (before := 0) (by omega)
    simp only [List.length_append, List.append_assoc, Nat.zero_add, Nat.add_assoc] at h3
    simp only [Nat.add_assoc]
    rw [h3]
    simp only
    rw [show base + (num - base) = num from by omega, ih2]
    simp
/-- what is encoded decodes to itself -/
theorem decBody_encBody {m : Mf} (hw : m.wf) (hk : chkM m = 0) : decBody (encBody m) = .ok m := by
  obtain ⟨g, v, n, t, segs⟩ := m
  obtain ⟨f1, f2, f3, f4, f5, f6, f7, f8, f9, f10⟩ := chkM_ok hk
  have htop := hw.top.2
  dsimp only at f1 f2 f3 f4 f5 f6 f7 f8 f9 f10 htop
  obtain ⟨g, rfl⟩ := Int.eq_ofNat_of_zero_le (show 0 ≤ g by omega)
  obtain ⟨v, rfl⟩ := Int.eq_ofNat_of_zero_le (show 0 ≤ v by omega)
  obtain ⟨n, rfl⟩ := Int.eq_ofNat_of_zero_le (show 0 ≤ n by omega)
  obtain ⟨t, rfl⟩ := Int.eq_ofNat_of_zero_le (show 0 ≤ t by omega)
  have e : encBody ⟨g, v, n, t, segs⟩ = [77] ++ ([g, v, n, t, segs.length].flatMap leb ++ ((segNums (0 : Nat) segs).flatMap leb ++ [])) := by
    simp [encBody, headNums]
  have h1 := rdHeads_of [g, v, n, t, segs.length] [77] ((segNums (0 : Nat) segs).flatMap leb ++ []) [] (by intro x hx; simp at hx; omega)
  have h2 := rdSegs_of n segs 0 ([77] ++ [g, v, n, t, segs.length].flatMap leb) [] [] f6 (by simpa using f10)
  rw [List.append_assoc, ← e] at h2
  rw [← e] at h1
  have hl : ([77] ++ [g, v, n, t, segs.length].flatMap leb).length + ((segNums (0 : Nat) segs).flatMap leb).length = (encBody ⟨g, v, n, t, segs⟩).length := by rw [e]; simp; omega
  rw [hl, List.length_append] at h2
  generalize encBody ⟨g, v, n, t, segs⟩ = B at *
  generalize [77].length + ([g, v, n, t, segs.length].flatMap leb).length = p at *
  have h1' : rdHeads B 5 1 [] = .ok ([g, v, n, t, segs.length], p) := h1
  have h2' : rdSegs B segs.length 0 p [] = .ok (segs, B.length) := h2
  have hk' : chkM ⟨([g, v, n, t, segs.length].getD 0 0 : Nat), ([g, v, n, t, segs.length].getD 1 0 : Nat), ([g, v, n, t, segs.length].getD 2 0 : Nat), ([g, v, n, t, segs.length].getD 3 0 : Nat), segs⟩ = 0 := hk
  unfold decBody
  rw [h1']
  simp only [Except.bind]
  rw [show [g, v, n, t, segs.length].getD 4 0 = segs.length from rfl, h2']
  simp only []
  rw [if_neg (by simp), if_neg (by rw [hk']; simp)]
  rfl
theorem encBody_len {m : Mf} (hk : chkM m = 0) : 0 < (encBody m).length ∧ (encBody m).length ≤ 1048576 ∨ ¬ m.wf := by
  by_cases hw : m.wf
  · left
    obtain ⟨g, v, n, t, segs⟩ := m
    obtain ⟨f1, f2, f3, f4, f5, f6, f7, f8, f9, f10⟩ := chkM_ok hk
    have htop := hw.top.2
    dsimp only at f1 f2 f3 f4 f5 f6 f7 f8 f9 f10 htop
    have key : ∀ (l : List Sg) (last : Int), 0 ≤ last → segsOk n last l = true → ∀ x ∈ segNums last l, x < 18446744073709551616 := by
      intro l
      induction l with
      | nil => intro last _ _ x hx; simp [segNums] at hx
      | cons s r ih =>
        intro last h0 h x hx
        simp only [segsOk, Bool.and_eq_true, decide_eq_true_eq] at h
        obtain ⟨⟨⟨a1, a2⟩, a3⟩, a4⟩ := h
        have hr := endOk_range a3
        simp only [segNums, List.mem_cons] at hx
        rcases hx with rfl | rfl | rfl | hx
        · omega
        · omega
        · omega
        · exact ih s.num (by omega) a4 x hx
    have hlen := flatMap_leb_len (headNums ⟨g, v, n, t, segs⟩ ++ segNums 0 segs) (by
      intro x hx
      rcases List.mem_append.1 hx with h | h
      · simp [headNums] at h; omega
      · exact key segs 0 (Int.le_refl 0) f10 x h)
    rw [List.length_append, segNums_len] at hlen
    have hh : (headNums ⟨g, v, n, t, segs⟩).length = 5 := rfl
    simp only [encBody, List.length_cons]
    omega
  · exact .inr hw
theorem encM_ok {m : Mf} (hw : m.wf) (hk : chkM m = 0) : encM m = .ok (frameB (encBody m)) ∧ decM (frameB (encBody m)) = .ok m := by
  obtain ⟨h0, h1⟩ : 0 < (encBody m).length ∧ (encBody m).length ≤ 1048576 := by rcases encBody_len hk with h | h; exact h; exact absurd hw h
  refine ⟨by unfold encM frameOf; rw [if_neg (by simp [hk]), if_neg (by omega), if_neg (by omega)], ?_⟩
  unfold decM
  rw [rdFrame_frameB h0 h1]
  simp only [Except.bind]
  rw [if_neg (by simp [encBody]), decBody_encBody hw hk]

theorem cutcat (l : List UInt8) {a b c : Nat} (h1 : a ≤ b) (h2 : b ≤ c) : (l.drop a).take (c - a) = (l.drop a).take (b - a) ++ (l.drop b).take (c - b) := by
  rw [show c - a = (b - a) + (c - b) from by omega, List.take_add, List.drop_drop, show a + (b - a) = b from by omega]
theorem rdN_back {l : List UInt8} {at_ before n p : Nat} (h : rdN l at_ before = .ok (n, p)) (hb : before ≤ 9223372036854775807) : (l.drop at_).take (p - at_) = leb (n - before) ∧ at_ < p ∧ before ≤ n ∧ n ≤ 9223372036854775807 := by
  obtain ⟨k1, k2, k3, k4, k5⟩ := rdN_ok h hb
  exact ⟨(readU_leb k5).1, k1, k3, k4⟩
theorem rdHeads_back {l : List UInt8} (k : Nat) : ∀ {at_ : Nat} {acc hs : List Nat} {p : Nat}, rdHeads l k at_ acc = .ok (hs, p) → ∃ ns, hs = acc ++ ns ∧ ns.length = k ∧ at_ ≤ p ∧ (l.drop at_).take (p - at_) = ns.flatMap leb ∧ ∀ x ∈ ns, x ≤ 9223372036854775807 := by
  induction k with
  | zero => intro at_ acc hs p h; simp only [rdHeads] at h; injection h with h; injection h with h1 h2; subst h1; subst h2; exact ⟨[], by simp, rfl, by omega, by simp, by simp⟩
  | succ k ih =>
    intro at_ acc hs p h
    rw [rdHeads] at h
    cases hu : rdN l at_ 0 with
    | error e => rw [hu] at h; cases h
    | ok x =>
      obtain ⟨n, q⟩ := x
      rw [hu] at h
      obtain ⟨b1, b2, b3, b4⟩ := rdN_back hu (by omega)
      obtain ⟨ns, e1, e2, e3, e4, e5⟩ := ih (show rdHeads l k q (acc ++ [n]) = .ok (hs, p) from h)
      refine ⟨n :: ns, by rw [e1]; simp, by simp [e2], by omega, ?_, ?_⟩
      · rw [cutcat l (by omega : at_ ≤ q) e3, b1, e4]; simp
      · intro x hx; rcases List.mem_cons.1 hx with rfl | hx; omega; exact e5 x hx
theorem rdSegs_back {l : List UInt8} (k : Nat) : ∀ {base at_ : Nat} {acc segs : List Sg} {p : Nat}, base ≤ 9223372036854775807 → rdSegs l k base at_ acc = .ok (segs, p) →
    ∃ ss, segs = acc ++ ss ∧ ss.length = k ∧ at_ ≤ p ∧ (l.drop at_).take (p - at_) = (segNums base ss).flatMap leb ∧ ∀ s ∈ ss, i64 s.num ∧ i64 s.size ∧ i64 s.count := by
  induction k with
  | zero => intro base at_ acc hs p _ h; simp only [rdSegs] at h; injection h with h; injection h with h1 h2; subst h1; subst h2; exact ⟨[], by simp, rfl, by omega, by simp [segNums], by simp⟩
  | succ k ih =>
    intro base at_ acc segs p hb h
    rw [rdSegs] at h
    cases hu : rdN l at_ base with
    | error e => rw [hu] at h; cases h
    | ok x =>
      obtain ⟨n, q⟩ := x
      rw [hu] at h
      simp only [Except.bind] at h
      obtain ⟨b1, b2, b3, b4⟩ := rdN_back hu hb
      cases hu2 : rdN l q 0 with
      | error e => rw [hu2] at h; cases h
      | ok x2 =>
        obtain ⟨s, q2⟩ := x2
        rw [hu2] at h
        simp only [] at h
        obtain ⟨c1, c2, c3, c4⟩ := rdN_back hu2 (by omega)
        cases hu3 : rdN l q2 0 with
        | error e => rw [hu3] at h; cases h
        | ok x3 =>
          obtain ⟨d, q3⟩ := x3
          rw [hu3] at h
          simp only [] at h
          obtain ⟨d1, d2, d3, d4⟩ := rdN_back hu3 (by omega)
          obtain ⟨ss, e1, e2, e3, e4, e5⟩ := ih b4 h
          refine ⟨⟨n, s, d⟩ :: ss, by rw [e1]; simp, by simp [e2], by omega, ?_, ?_⟩
          · have en : ((n : Int) - base).toNat = n - base := by omega
            rw [cutcat l (by omega : at_ ≤ q) (by omega : q ≤ p), cutcat l (by omega : q ≤ q2) (by omega : q2 ≤ p), cutcat l (by omega : q2 ≤ q3) e3, b1, c1, d1, e4]
            simp [segNums, en]
          · intro x hx
            rcases List.mem_cons.1 hx with rfl | hx
            · dsimp only [i64]; omega
            · exact e5 x hx
/-- what decodes is the encoding of what it decodes to -/
theorem decM_back {b : List UInt8} {m : Mf} (h : decM b = .ok m) : m.wf ∧ chkM m = 0 ∧ encM m = .ok b := by
  unfold decM at h
  cases hf : rdFrame b 0 with
  | error e => rw [hf] at h; cases h
  | ok x =>
    obtain ⟨body, q⟩ := x
    rw [hf] at h
    simp only [Except.bind] at h
    split at h
    · cases h
    rename_i hc
    have hq : q = b.length := by omega
    subst hq
    have h77 : body.getD 0 0 = 77 := by
      by_cases h7 : body.getD 0 0 = 77
      · exact h7
      · exact absurd (.inr h7) hc
    obtain ⟨hb, h0, h1⟩ := rdFrame_frameB_back hf
    unfold decBody at h
    cases hh : rdHeads body 5 1 [] with
    | error e => rw [hh] at h; cases h
    | ok x =>
      obtain ⟨hs, p5⟩ := x
      rw [hh] at h
      simp only [Except.bind] at h
      obtain ⟨ns, e1, e2, e3, e4, e5⟩ := rdHeads_back 5 hh
      rw [List.nil_append] at e1
      subst e1
      match hs, e2 with
      | [g, v, n, t, k], _ =>
      have h4 : [g, v, n, t, k].getD 4 0 = k := rfl
      rw [h4] at h
      cases hs : rdSegs body k 0 p5 [] with
      | error e => rw [hs] at h; cases h
      | ok x =>
        obtain ⟨segs, p⟩ := x
        rw [hs] at h
        simp only [] at h
        obtain ⟨ss, f1, f2, f3, f4, f5⟩ := rdSegs_back k (by omega) hs
        rw [List.nil_append] at f1
        subst f1
        split at h
        · cases h
        rename_i hp
        have hp : p = body.length := by omega
        split at h
        · cases h
        rename_i hk
        injection h with h
        have hm : m = ⟨(g : Int), (v : Int), (n : Int), (t : Int), segs⟩ := h.symm
        have hk : chkM m = 0 := by
          rw [hm]
          by_cases hz : chkM ⟨(g : Int), (v : Int), (n : Int), (t : Int), segs⟩ = 0
          · exact hz
          · exact absurd hz (by simpa using hk)
        have hw : m.wf := by
          rw [hm]
          have i1 := e5 g (by simp)
          have i2 := e5 v (by simp)
          have i3 := e5 n (by simp)
          have i4 := e5 t (by simp)
          exact ⟨by dsimp only [i64]; omega, by dsimp only [i64]; omega, by dsimp only [i64]; omega, by dsimp only [i64]; omega, f5⟩
        have he : encBody m = body := by
          have hcons : body = 77 :: body.drop 1 := by
            cases body with
            | nil => simp at h0
            | cons x r => simp at h77; simp [h77]
          have h2 : body.drop 1 = (body.drop 1).take (p - 1) := by rw [List.take_of_length_le (by simp; omega)]
          have hk2 : k = segs.length := f2.symm
          rw [hcons, h2, cutcat body e3 f3, e4, f4, hm]
          simp [encBody, headNums, hk2]
        refine ⟨hw, hk, ?_⟩
        rw [(encM_ok hw hk).1, he, ← hb]
end Go.Proofs.YtamodllgeabpoaaDoor
