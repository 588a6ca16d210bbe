/- Contracts: manifest.Decode. -/
import Derived.Test.YtamodllgeabpoaaDoorManE
namespace Go.Proofs.YtamodllgeabpoaaDoor
open Go.RowKit

/-- what a decoder answers: a manifest whose segments lie in new memory, or an error and nothing -/
def MfPost (w : World) (r : Except Int Mf) (e : Ending) (w' : World) : Prop :=
  (∀ er, r = .error er → e = .returned (.tuple #[mval ⟨0, 0, 0, 0, []⟩ none 0, .int .i64 er])) ∧
  (∀ m, r = .ok m → ∃ A c, e = .returned (.tuple #[mval m A c, .int .i64 0]) ∧ w'.ownsRow w.heap.size 45 3 (.slice A m.segs.length c) m.segs.length (svs m.segs)) ∧ Below w.heap.size w w'
theorem mf_err {w w' : World} {r : Except Int Mf} {er : Int} (h : r = .error er) (hb : Below w.heap.size w w') : MfPost w r (.returned (.tuple #[mval ⟨0, 0, 0, 0, []⟩ none 0, .int .i64 er])) w' := by
  subst h
  exact ⟨fun er h => (by injection h with h; subst h; rfl), fun b' h => (by cases h), hb⟩
theorem mf_ok {w w' : World} {r : Except Int Mf} {m : Mf} {n : Nat} {A : Option Addr} {c : Nat} (h : r = .ok m) (hn : n = m.segs.length) (ho : w'.ownsRow w.heap.size 45 3 (.slice A n c) n (svs m.segs)) (hb : Below w.heap.size w w') :
    MfPost w r (.returned (.tuple #[.agg #[.int .i64 m.gen, .int .i64 m.v, .int .i64 m.next, .int .i64 m.top, .slice A n c], .int .i64 0])) w' := by
  subst hn; subst h
  exact ⟨fun er h => (by cases h), fun b' h => (by injection h with h; subst h; exact ⟨A, c, rfl, ho⟩), hb⟩

theorem Blk.five {w : World} {g : Nat} {t : TypeId} {a b c d e : Value} (h : Blk w g t #[a, b, c, d, e]) : g < w.heap.size ∧ w.cell? ⟨g, 0, none⟩ = some a ∧ w.cell? ⟨g, 1, none⟩ = some b ∧ w.cell? ⟨g, 2, none⟩ = some c ∧ w.cell? ⟨g, 3, none⟩ = some d ∧ w.cell? ⟨g, 4, none⟩ = some e ∧
    w.frozen? ⟨g, 0, none⟩ = false ∧ w.frozen? ⟨g, 1, none⟩ = false ∧ w.frozen? ⟨g, 2, none⟩ = false ∧ w.frozen? ⟨g, 3, none⟩ = false ∧ w.frozen? ⟨g, 4, none⟩ = false :=
  ⟨h.lt, h.cell 0, h.cell 1, h.cell 2, h.cell 3, h.cell 4, h.frozen 0, h.frozen 1, h.frozen 2, h.frozen 3, h.frozen 4⟩

theorem rdFrame_ok {l body : List UInt8} {at_ q : Nat} (h : rdFrame l at_ = .ok (body, q)) : 0 < body.length ∧ body.length ≤ 1048576 ∧ q ≤ l.length ∧ at_ < q := by
  unfold rdFrame at h
  cases hu : rdBounds l at_ with
  | error e => rw [hu] at h; cases h
  | ok x =>
    obtain ⟨f, t⟩ := x
    rw [hu] at h
    obtain ⟨k1, k2, k3, k4, k5, _⟩ := rdBounds_ok hu
    dsimp only at h
    split at h
    · cases h
    · injection h with h; injection h with h1 h2; subst h1; subst h2
      simp
      omega
theorem rdFrame_err {l : List UInt8} {at_ : Nat} {e : Int} (h : rdFrame l at_ = .error e) : e ≠ 0 := by
  unfold rdFrame at h
  cases hu : rdBounds l at_ with
  | error e' => rw [hu] at h; injection h with h; subst h; exact rdBounds_err hu
  | ok x =>
    obtain ⟨f, t⟩ := x
    rw [hu] at h
    dsimp only at h
    split at h
    · injection h; omega
    · cases h
theorem below_five {B g : Nat} {w w' : World} (h : Below B w w') (hg : B ≤ g) (a b c d e : Value) : Below B w (((((w'.setCell ⟨g, 0, none⟩ a).setCell ⟨g, 1, none⟩ b).setCell ⟨g, 2, none⟩ c).setCell ⟨g, 3, none⟩ d).setCell ⟨g, 4, none⟩ e) :=
  ((((h.setCell hg a).setCell hg b).setCell hg c).setCell hg d).setCell hg e
theorem own_five {w : World} {base g : Nat} {e : TypeId} {size n : Nat} {v : Value} {xs : List Value} (h : w.ownsRow base e size v n xs) (hg : g < base) (a b c d u : Value) :
    (((((w.setCell ⟨g, 0, none⟩ a).setCell ⟨g, 1, none⟩ b).setCell ⟨g, 2, none⟩ c).setCell ⟨g, 3, none⟩ d).setCell ⟨g, 4, none⟩ u).ownsRow base e size v n xs :=
  h.kept (row := some g) (grown_set (grown_set (grown_set (grown_set (grown_set (World.grownBy.refl w _) 0 _) 1 _) 2 _) 3 _) 4 _) (by
    cases hb : v.ownBlock with
    | none => exact .inl rfl
    | some k => refine .inr fun hh => ?_; have := (h.lt k hb).1; injection hh with hh; omega)

set_option maxRecDepth 100000 in
set_option maxHeartbeats 4000000 in
theorem decode_bad (A : Option Addr) (c : Nat) (b : List UInt8) (w : World) (hr : Rd w w.heap.size A (bv b)) (hcap : b.length ≤ c) (hl : b.length ≤ 140737488355328) (hT : Tab w) (h0 : 0 < w.heap.size)
    (h : ∀ body q, rdFrame b 0 = .ok (body, q) → q ≠ b.length ∨ body.getD 0 0 ≠ 77) :
    Calls Tryd.prog 19 #[.slice A b.length c] w (MfPost w (decM b)) := by
  have hb0 : Below w.heap.size w (w.alloc (.cells #[.int .i64 0, .int .i64 0, .int .i64 0, .int .i64 0, .slice none 0 0] 24)) := (Below.refl _ _).alloc (Nat.le_refl _) _
  have hF := readFrame_ok A c b 0 _ ((hr.below hb0 (Nat.le_refl _)).more hb0.size) hcap hl (by omega) (hT.below hb0 h0) (Nat.lt_of_lt_of_le h0 hb0.size)
  have HB0 := Hd.mk hb0
  cases hu : rdFrame b 0 with
  | error er =>
    have he : (er != 0) = true := bne_iff_ne.2 (rdFrame_err hu)
    have HN := Hd.mk (show decM b = .error er by unfold decM; rw [hu]; rfl)
    rw [hu] at hF
    have HF := Hd.mk hF
    clear hF hu hr hT hb0 h
    go_enter Tryd.func19, Tryd.ntmps19
    go_wp2_with (go_at_call 43; refine HF.out.mono ?_; rintro e w1 ⟨hk, -, hb1⟩; cases (hk _ rfl); clear hk; obtain ⟨r1, r2, r3, r4, r5, r6, r7, r8, r9, r10, r11⟩ := ((Blk.new w 24 #[.int .i64 0, .int .i64 0, .int .i64 0, .int .i64 0, .slice none 0 0]).below hb1 (by simp)).five)
    refine bodyPost_ret (v := .tuple #[.agg #[.int .i64 0, .int .i64 0, .int .i64 0, .int .i64 0, .slice none 0 0], .int .i64 er]) (by simp [results, Tryd.results19, go_sem, r2, r3, r4, r5, r6]) rfl ?_
    exact mf_err HN.out (below_five (HB0.out.trans (hb1.mono HB0.out.size)) (Nat.le_refl _) _ _ _ _ _)
  | ok x =>
    obtain ⟨l, q⟩ := x
    have hq := h l q hu
    obtain ⟨k1, k2, k3, k4⟩ := rdFrame_ok hu
    have HN := Hd.mk (show decM b = .error 85 by unfold decM; rw [hu]; simp only [Except.bind]; rw [if_pos hq])
    rw [hu] at hF
    have HF := Hd.mk hF
    rw [getD_get l 0 k1] at hq
    have hx := bv_get l 0 k1
    clear hF hu hr hT hb0 h
    generalize l[0] = x at *
    obtain ⟨z, hz⟩ : ∃ z : Bool, ((q : Int) != (b.length : Int)) = z := ⟨_, rfl⟩
    cases z with
    | true =>
      go_enter Tryd.func19, Tryd.ntmps19
      go_wp2_with (go_at_call 43; refine HF.out.mono ?_; rintro e w1 ⟨-, hk, hb1⟩; obtain ⟨A1, c1, rfl, hf⟩ := hk _ _ rfl; clear hk; obtain ⟨r1, r2, r3, r4, r5, r6, r7, r8, r9, r10, r11⟩ := ((Blk.new w 24 #[.int .i64 0, .int .i64 0, .int .i64 0, .int .i64 0, .slice none 0 0]).below hb1 (by simp)).five)
      refine bodyPost_ret (v := .tuple #[.agg #[.int .i64 0, .int .i64 0, .int .i64 0, .int .i64 0, .slice none 0 0], .int .i64 85]) (by simp [results, Tryd.results19, go_sem, r2, r3, r4, r5, r6]) rfl ?_
      exact mf_err HN.out (below_five (HB0.out.trans (hb1.mono HB0.out.size)) (Nat.le_refl _) _ _ _ _ _)
    | false =>
      have hx2 : ((x.toNat : Int) != 77) = true := by
        refine bne_iff_ne.2 fun e => ?_
        have hz2 := bne_eq_false_iff_eq.1 hz
        rcases hq with hq | hq
        · omega
        · exact hq (UInt8.toNat_inj.1 (by have : (77 : UInt8).toNat = 77 := rfl; omega))
      clear hq
      go_enter Tryd.func19, Tryd.ntmps19
      go_wp2_with (go_at_call 43; refine HF.out.mono ?_; rintro e w1 ⟨-, hk, hb1⟩; obtain ⟨A1, c1, rfl, hf⟩ := hk _ _ rfl; clear hk; obtain ⟨gb, goff, rfl, hgb, hcell⟩ := hf.rd.at_ hx; rw [Nat.add_zero] at hcell; obtain ⟨r1, r2, r3, r4, r5, r6, r7, r8, r9, r10, r11⟩ := ((Blk.new w 24 #[.int .i64 0, .int .i64 0, .int .i64 0, .int .i64 0, .slice none 0 0]).below hb1 (by simp)).five)
      refine bodyPost_ret (v := .tuple #[.agg #[.int .i64 0, .int .i64 0, .int .i64 0, .int .i64 0, .slice none 0 0], .int .i64 85]) (by simp [results, Tryd.results19, go_sem, r2, r3, r4, r5, r6]) rfl ?_
      exact mf_err HN.out (below_five (HB0.out.trans (hb1.mono HB0.out.size)) (Nat.le_refl _) _ _ _ _ _)
end Go.Proofs.YtamodllgeabpoaaDoor
