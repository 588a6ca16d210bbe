/- Contracts: the reference's Decode of a manifest, frames that hold no body. -/
import Derived.Test.YtamodllgeabpoaaDoorManH
namespace Go.Proofs.YtamodllgeabpoaaDoor
open Go.RowKit

theorem size_alloc (w : World) (o : Obj) : (w.alloc o).heap.size = w.heap.size + 1 := by simp

set_option maxRecDepth 100000 in
set_option maxHeartbeats 4000000 in
theorem refDecode_bad (A : Option Addr) (c : Nat) (b : List UInt8) (w : World) (hr : Rd w w.heap.size A (bv b)) (hl : b.length ≤ 100000000000000)
    (h : ∀ body q, rdFrame b 0 = .ok (body, q) → q ≠ b.length ∨ body.getD 0 0 ≠ 77) :
    Calls Tryd.prog 22 #[.slice A b.length c] w (MfPost w (decM b)) := by
  have hb0 : Below w.heap.size w ((w.alloc (.cells #[.int .i64 0, .int .i64 0, .int .i64 0, .int .i64 0, .slice none 0 0] 24)).alloc (.cells #[.int .i64 0, .int .i64 0, .int .i64 0, .int .i64 0, .slice none 0 0] 24)) := ((Below.refl _ _).alloc (Nat.le_refl _) _).alloc (by simp) _
  have hF := refReadFrame_ok A c b 0 _ ((hr.below hb0 (Nat.le_refl _)).more hb0.size) hl (by omega)
  have HB0 := Hd.mk hb0
  cases hu : rdFrame b 0 with
  | error er =>
    have he : (er != 0) = true := bne_iff_ne.2 (rdFrame_err hu)
    have HN := Hd.mk (show decM b = .error er by unfold decM; rw [hu]; rfl)
    rw [hu] at hF
    have HF := Hd.mk hF
    clear hF hu hr hb0 h
    go_enter Tryd.func22, Tryd.ntmps22
    go_wp2_with (go_at_call 45; refine HF.out.mono ?_; rintro e w1 ⟨hk, -, hb1⟩; cases (hk _ rfl); clear hk; obtain ⟨r1, r2, r3, r4, r5, r6, r7, r8, r9, r10, r11⟩ := ((Blk.new w 24 #[.int .i64 0, .int .i64 0, .int .i64 0, .int .i64 0, .slice none 0 0]).alloc (.cells #[.int .i64 0, .int .i64 0, .int .i64 0, .int .i64 0, .slice none 0 0] 24) |>.below hb1 (by simp; omega)).five; obtain ⟨z1, z2, z3, z4, z5, z6, z7, z8, z9, z10, z11⟩ := ((Blk.new (w.alloc (.cells #[.int .i64 0, .int .i64 0, .int .i64 0, .int .i64 0, .slice none 0 0] 24)) 24 #[.int .i64 0, .int .i64 0, .int .i64 0, .int .i64 0, .slice none 0 0]).below hb1 (by simp)).five; simp only [size_alloc] at z2 z3 z4 z5 z6)
    refine bodyPost_ret (v := .tuple #[.agg #[.int .i64 0, .int .i64 0, .int .i64 0, .int .i64 0, .slice none 0 0], .int .i64 er]) (by simp [results, Tryd.results22, go_sem, r2, r3, r4, r5, r6]) rfl ?_
    exact mf_err HN.out (below_five (HB0.out.trans (hb1.mono HB0.out.size)) (Nat.le_refl _) _ _ _ _ _)
  | ok x =>
    obtain ⟨l, q⟩ := x
    have hq := h l q hu
    obtain ⟨k1, k2, k3, k4⟩ := rdFrame_ok hu
    have HN := Hd.mk (show decM b = .error 85 by unfold decM; rw [hu]; simp only [Except.bind]; rw [if_pos hq])
    rw [hu] at hF
    have HF := Hd.mk hF
    rw [getD_get l 0 k1] at hq
    have hx := bv_get l 0 k1
    clear hF hu hr hb0 h
    generalize l[0] = x at *
    obtain ⟨z, hz⟩ : ∃ z : Bool, ((q : Int) != (b.length : Int)) = z := ⟨_, rfl⟩
    cases z with
    | true =>
      go_enter Tryd.func22, Tryd.ntmps22
      go_wp2_with (go_at_call 45; refine HF.out.mono ?_; rintro e w1 ⟨-, hk, hb1⟩; obtain ⟨A1, c1, rfl, hf⟩ := hk _ _ rfl; clear hk; obtain ⟨r1, r2, r3, r4, r5, r6, r7, r8, r9, r10, r11⟩ := ((Blk.new w 24 #[.int .i64 0, .int .i64 0, .int .i64 0, .int .i64 0, .slice none 0 0]).alloc (.cells #[.int .i64 0, .int .i64 0, .int .i64 0, .int .i64 0, .slice none 0 0] 24) |>.below hb1 (by simp; omega)).five; obtain ⟨z1, z2, z3, z4, z5, z6, z7, z8, z9, z10, z11⟩ := ((Blk.new (w.alloc (.cells #[.int .i64 0, .int .i64 0, .int .i64 0, .int .i64 0, .slice none 0 0] 24)) 24 #[.int .i64 0, .int .i64 0, .int .i64 0, .int .i64 0, .slice none 0 0]).below hb1 (by simp)).five; simp only [size_alloc] at z2 z3 z4 z5 z6)
      refine bodyPost_ret (v := .tuple #[.agg #[.int .i64 0, .int .i64 0, .int .i64 0, .int .i64 0, .slice none 0 0], .int .i64 85]) (by simp [results, Tryd.results22, go_sem, r2, r3, r4, r5, r6]) rfl ?_
      exact mf_err HN.out (below_five (HB0.out.trans (hb1.mono HB0.out.size)) (Nat.le_refl _) _ _ _ _ _)
    | false =>
      have hx2 : ((x.toNat : Int) != 77) = true := by
        refine bne_iff_ne.2 fun e => ?_
        have hz2 := bne_eq_false_iff_eq.1 hz
        rcases hq with hq | hq
        · omega
        · exact hq (UInt8.toNat_inj.1 (by have : (77 : UInt8).toNat = 77 := rfl; omega))
      clear hq
      go_enter Tryd.func22, Tryd.ntmps22
      go_wp2_with (go_at_call 45; refine HF.out.mono ?_; rintro e w1 ⟨-, hk, hb1⟩; obtain ⟨A1, c1, rfl, hf⟩ := hk _ _ rfl; clear hk; obtain ⟨gb, goff, rfl, hgb, hcell⟩ := hf.rd.at_ hx; rw [Nat.add_zero] at hcell; obtain ⟨r1, r2, r3, r4, r5, r6, r7, r8, r9, r10, r11⟩ := ((Blk.new w 24 #[.int .i64 0, .int .i64 0, .int .i64 0, .int .i64 0, .slice none 0 0]).alloc (.cells #[.int .i64 0, .int .i64 0, .int .i64 0, .int .i64 0, .slice none 0 0] 24) |>.below hb1 (by simp; omega)).five; obtain ⟨z1, z2, z3, z4, z5, z6, z7, z8, z9, z10, z11⟩ := ((Blk.new (w.alloc (.cells #[.int .i64 0, .int .i64 0, .int .i64 0, .int .i64 0, .slice none 0 0] 24)) 24 #[.int .i64 0, .int .i64 0, .int .i64 0, .int .i64 0, .slice none 0 0]).below hb1 (by simp)).five; simp only [size_alloc] at z2 z3 z4 z5 z6)
      refine bodyPost_ret (v := .tuple #[.agg #[.int .i64 0, .int .i64 0, .int .i64 0, .int .i64 0, .slice none 0 0], .int .i64 85]) (by simp [results, Tryd.results22, go_sem, r2, r3, r4, r5, r6]) rfl ?_
      exact mf_err HN.out (below_five (HB0.out.trans (hb1.mono HB0.out.size)) (Nat.le_refl _) _ _ _ _ _)
end Go.Proofs.YtamodllgeabpoaaDoor
