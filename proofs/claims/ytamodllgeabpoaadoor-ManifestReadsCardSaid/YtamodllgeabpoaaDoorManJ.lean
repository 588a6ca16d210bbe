/- Contracts: the reference's Decode of a manifest, a frame that holds a body. -/
import Derived.Test.YtamodllgeabpoaaDoorManI
import Derived.BigRegion
namespace Go.Proofs.YtamodllgeabpoaaDoor
open Go.RowKit

/-- the memory of the reference's Decode at work -/
structure QS (w2 : World) (v1 v2 v3 v4 : Nat) (A3 : Option Addr) (n3 c3 : Nat) (segs : List Sg) (w : World) : Prop where
  mb : Blk w w2.heap.size 24 #[.int .i64 v1, .int .i64 v2, .int .i64 v3, .int .i64 v4, .slice A3 n3 c3]
  own : w.ownsRow (w2.heap.size + 1) 45 3 (.slice A3 n3 c3) n3 (svs segs)
  below : Below w2.heap.size w2 w
section
variable {w2 w : World} {v1 v2 v3 v4 : Nat} {A3 : Option Addr} {n3 c3 : Nat} {segs : List Sg}
theorem QS.mid (h : QS w2 v1 v2 v3 v4 A3 n3 c3 segs w) {w' : World} (hk : Below (w2.heap.size + 1) w w') : Blk w' w2.heap.size 24 #[.int .i64 v1, .int .i64 v2, .int .i64 v3, .int .i64 v4, .slice A3 n3 c3] := h.mb.below hk (Nat.lt_succ_self _)
theorem QS.push (h : QS w2 v1 v2 v3 v4 A3 n3 c3 segs w) {w' : World} {A4 : Option Addr} {n4 c4 : Nat} {segs' : List Sg} (hk : Below (w2.heap.size + 1) w w') (ho : w'.ownsRow (w2.heap.size + 1) 45 3 (.slice A4 n4 c4) n4 (svs segs')) :
    QS w2 v1 v2 v3 v4 A4 n4 c4 segs' (w'.setCell ⟨w2.heap.size, 4, none⟩ (.slice A4 n4 c4)) :=
  ⟨(h.mid hk).set_ 4 _, ho.kept (row := some w2.heap.size) (grown_set (World.grownBy.refl w' _) 4 _) (own_not_low ho (by omega)), (h.below.trans (hk.mono (by omega))).setCell (Nat.le_refl _) _⟩
theorem QS.later (h : QS w2 v1 v2 v3 v4 A3 n3 c3 segs w) {w' : World} (hk : Below w.heap.size w w') : QS w2 v1 v2 v3 v4 A3 n3 c3 segs w' :=
  ⟨h.mb.below hk h.mb.lt, own_below h.own hk, h.below.trans (hk.mono (Nat.le_of_lt h.mb.lt))⟩
end

set_option maxRecDepth 100000 in
set_option maxHeartbeats 8000000 in
theorem refDecode_good (A : Option Addr) (c : Nat) (b l : List UInt8) (w : World) (hr : Rd w w.heap.size A (bv b)) (hl : b.length ≤ 100000000000000)
    (hu : rdFrame b 0 = .ok (l, b.length)) (h77 : l.getD 0 0 = 77) :
    Calls Tryd.prog 22 #[.slice A b.length c] w (MfPost w (decM b)) := by
  have hb0 : Below w.heap.size w ((w.alloc (.cells #[.int .i64 0, .int .i64 0, .int .i64 0, .int .i64 0, .slice none 0 0] 24)).alloc (.cells #[.int .i64 0, .int .i64 0, .int .i64 0, .int .i64 0, .slice none 0 0] 24)) := ((Below.refl _ _).alloc (Nat.le_refl _) _).alloc (by simp) _
  have hF := refReadFrame_ok A c b 0 _ ((hr.below hb0 (Nat.le_refl _)).more hb0.size) hl (by omega)
  have HB0 := Hd.mk hb0
  obtain ⟨k1, k2, k3, k4⟩ := rdFrame_ok hu
  have HN := Hd.mk (show decM b = decBody l by unfold decM; rw [hu]; simp only [Except.bind]; rw [if_neg (by rw [h77]; simp)])
  rw [hu] at hF
  have HF := Hd.mk hF
  rw [getD_get l 0 k1] at h77
  have hx : (bv l)[0]? = some (.int .u8 77) := by rw [bv_get l 0 k1, h77]; rfl
  have hHd := fun (W : World) (A : Option Addr) (c : Nat) (h : Rd W W.heap.size A (bv l)) => heads_ok A c l W h (by omega)
  clear hF hu hr hb0 h77
  cases hu : rdHeads l 5 1 [] with
  | error er =>
    have he : (er != 0) = true := bne_iff_ne.2 (rdHeads_err 5 hu)
    have HE := Hd.mk (show decM b = .error er by rw [HN.out]; unfold decBody; rw [hu]; rfl)
    rw [hu] at hHd
    have HH := Hd.mk hHd
    clear hu hHd
    go_enter Tryd.func22, Tryd.ntmps22
    go_wp2_with (first
      | (go_at_call 45; refine HF.out.mono ?_; rintro e w1 ⟨-, hk, hb1⟩; obtain ⟨A1, c1, rfl, hf⟩ := hk _ _ rfl; clear hk; obtain ⟨gb, goff, rfl, hgb, hcell⟩ := hf.rd.at_ hx; rw [Nat.add_zero] at hcell)
      | (go_at_call 46; refine (HH.out w1 _ c1 hf.rd).mono ?_; rintro e w2 ⟨hk, -, hb2⟩; cases (hk _ rfl); clear hk; have hb1 := hb1.trans (hb2.mono hb1.size); obtain ⟨r1, r2, r3, r4, r5, r6, r7, r8, r9, r10, r11⟩ := ((Blk.new w 24 #[.int .i64 0, .int .i64 0, .int .i64 0, .int .i64 0, .slice none 0 0]).alloc (.cells #[.int .i64 0, .int .i64 0, .int .i64 0, .int .i64 0, .slice none 0 0] 24) |>.below hb1 (by simp; omega)).five; obtain ⟨z1, z2, z3, z4, z5, z6, z7, z8, z9, z10, z11⟩ := ((Blk.new (w.alloc (.cells #[.int .i64 0, .int .i64 0, .int .i64 0, .int .i64 0, .slice none 0 0] 24)) 24 #[.int .i64 0, .int .i64 0, .int .i64 0, .int .i64 0, .slice none 0 0]).below hb1 (by simp)).five; simp only [size_alloc] at z2 z3 z4 z5 z6))
    refine bodyPost_ret (v := .tuple #[.agg #[.int .i64 0, .int .i64 0, .int .i64 0, .int .i64 0, .slice none 0 0], .int .i64 er]) (by simp [results, Tryd.results22, go_sem, r2, r3, r4, r5, r6]) rfl ?_
    exact mf_err HE.out (below_five (HB0.out.trans (hb1.mono HB0.out.size)) (Nat.le_refl _) _ _ _ _ _)
  | ok x =>
    obtain ⟨hs, p5⟩ := x
    obtain ⟨hlen, hp5⟩ := rdHeads_len 5 hu
    match hs, hlen with
    | [v1, v2, v3, v4, v5], _ =>
    have HE := Hd.mk (show decM b = (rdSegs l v5 0 p5 []).bind (decEnd l v1 v2 v3 v4) by rw [HN.out]; unfold decBody; rw [hu]; rfl)
    rw [hu] at hHd
    have HH := Hd.mk hHd
    clear hu hHd HN
    go_enter Tryd.func22, Tryd.ntmps22
    go_wp2_with (first
      | (go_at_call 45; refine HF.out.mono ?_; rintro e w1 ⟨-, hk, hb1⟩; obtain ⟨A1, c1, rfl, hf⟩ := hk _ _ rfl; clear hk; obtain ⟨gb, goff, rfl, hgb, hcell⟩ := hf.rd.at_ hx; rw [Nat.add_zero] at hcell)
      | (go_at_call 46; refine (HH.out w1 _ c1 hf.rd).mono ?_; rintro e w2 ⟨-, hk, hb2⟩; obtain ⟨A2, c2, rfl, hnu⟩ := hk _ _ rfl; clear hk; simp only [List.length_cons, List.length_nil, Nat.zero_add, Nat.reduceAdd] at hnu ⊢;
          obtain ⟨nb, noff, rfl, hnb, n0⟩ := (Rd.of_own hnu).at_ (k := 0) (u := .int .i64 v1) rfl; obtain ⟨_, _, e0, _, n1⟩ := (Rd.of_own hnu).at_ (k := 1) (u := .int .i64 v2) rfl; cases e0; obtain ⟨_, _, e0, _, n2⟩ := (Rd.of_own hnu).at_ (k := 2) (u := .int .i64 v3) rfl; cases e0; obtain ⟨_, _, e0, _, n3⟩ := (Rd.of_own hnu).at_ (k := 3) (u := .int .i64 v4) rfl; cases e0; obtain ⟨_, _, e0, _, n4⟩ := (Rd.of_own hnu).at_ (k := 4) (u := .int .i64 v5) rfl; cases e0; rw [Nat.add_zero] at n0))
    go_region
    have hzz := (Blk.new w 24 #[.int .i64 0, .int .i64 0, .int .i64 0, .int .i64 0, .slice none 0 0]).alloc (.cells #[.int .i64 0, .int .i64 0, .int .i64 0, .int .i64 0, .slice none 0 0] 24)
    have hzz1 := (Blk.new (w.alloc (.cells #[.int .i64 0, .int .i64 0, .int .i64 0, .int .i64 0, .slice none 0 0] 24)) 24 #[.int .i64 0, .int .i64 0, .int .i64 0, .int .i64 0, .slice none 0 0])
    rw [size_alloc] at hzz1
    have hb12 := hb1.trans (hb2.mono hb1.size)
    have HZ0 := Hd.mk (hzz.below hb12 (by simp; omega))
    have HZ1 := Hd.mk (hzz1.below hb12 (by simp))
    have HBW := Hd.mk (HB0.out.trans (hb12.mono HB0.out.size))
    have hw0 : w.heap.size < w2.heap.size := HZ0.out.lt
    have hw0' : w.heap.size + 1 < w2.heap.size := HZ1.out.lt
    have HRD := Hd.mk ((hf.rd.below hb2 (Nat.le_refl _)).more hb2.size)
    have hqs : QS w2 v1 v2 v3 v4 none 0 0 [] (w2.alloc (.cells #[.int .i64 v1, .int .i64 v2, .int .i64 v3, .int .i64 v4, .slice none 0 0] 24)).drew := ⟨Blk.new w2 _ _, World.ownsRow_nil _ _ _ _, ((Below.refl _ _).alloc (Nat.le_refl _) _).drew⟩
    have hp5l : p5 ≤ l.length := by omega
    clear hzz hzz1 hb12 hb1 hb2 hnu hf n0 n1 n2 n3 hcell HB0 HF HH
    go_wp2_with fail
    go_loopw [9, 11, 12] (fun at_ last i wr => ∃ (k p la c3 : Nat) (A3 : Option Addr) (segs : List Sg), at_ = .int .i64 p ∧ last = .int .i64 la ∧ i = .int .i64 k ∧ k ≤ v5 ∧ p ≤ l.length ∧ la ≤ 9223372036854775807 ∧ k * 3 ≤ p ∧ QS w2 v1 v2 v3 v4 A3 k c3 segs wr ∧ Hd (rdSegs l v5 0 p5 [] = rdSegs l (v5 - k) la p segs)) (fun _ _ i _ => v5 - (intOf i).toNat)
    case atStart => exact ⟨0, p5, 0, 0, none, [], rfl, rfl, rfl, by omega, hp5l, by omega, by omega, hqs, ⟨rfl⟩⟩
    case round =>
      obtain ⟨k, p, la, c3, A3, segs, rfl, rfl, rfl, hk, hp, hla, h3p, hQ, H⟩ := hrel
      have HQ := Hd.mk hQ
      have n4' := (hQ.below.cell (p := ⟨nb, noff + 4, none⟩) hnb).trans n4
      obtain ⟨hMlt, m0, m1, m2, m3, m4, g0, g1, g2, g3, g4⟩ := hQ.mb.five
      have hrd := HRD.out.below hQ.below (Nat.le_refl _)
      clear hQ
      by_cases hlt : k < v5
      · obtain ⟨j, hj⟩ : ∃ j, v5 - k = j + 1 := ⟨v5 - k - 1, by omega⟩
        have HS := Hd.mk (show rdSegs l v5 0 p5 [] = (rdN l p la).bind fun (n, p) => (rdN l p 0).bind fun (s, q) => (rdN l q 0).bind fun (c, r) => rdSegs l j n r (segs ++ [⟨n, s, c⟩]) by rw [H.out, hj, rdSegs])
        have hT := fun (at_ before : Nat) (h1 : at_ ≤ 9223372036854775807) (h2 : before ≤ 9223372036854775807) => take_ok (some ⟨gb, goff, none⟩) c1 w2.heap.size l at_ before wr hrd (by omega) h1 h2
        have hT1 := hT p la (by omega) hla
        cases hu1 : rdN l p la with
        | error er =>
          have he : (er != 0) = true := bne_iff_ne.2 (rdN_err hu1)
          have HX := Hd.mk (show decM b = .error er by rw [HE.out, HS.out, hu1]; rfl)
          rw [hu1] at hT1
          simp only [retT] at hT1
          have HT1 := Hd.mk hT1
          clear hT1 hT hu1 hrd
          obtain ⟨r1, r2, r3, r4, r5, r6, r7, r8, r9, r10, r11⟩ := (HZ0.out.below HQ.out.below hw0).five; obtain ⟨z1, z2, z3, z4, z5, z6, z7, z8, z9, z10, z11⟩ := (HZ1.out.below HQ.out.below hw0').five
          go_wp2_with (go_at_call_of 47 (((p : Nat) : Int)); refine HT1.out.mono ?_; rintro e w' ⟨rfl, rfl⟩)
          refine bodyPost_ret (v := .tuple #[.agg #[.int .i64 0, .int .i64 0, .int .i64 0, .int .i64 0, .slice none 0 0], .int .i64 er]) (by simp [results, Tryd.results22, go_sem, r2, r3, r4, r5, r6]) rfl ?_
          exact mf_err HX.out (below_five (HBW.out.trans (HQ.out.below.mono (Nat.le_of_lt hw0))) (Nat.le_refl _) _ _ _ _ _)
        | ok x1 =>
          obtain ⟨n, p1⟩ := x1
          obtain ⟨a1, a2, a3, a4, _⟩ := rdN_ok hu1 hla
          rw [hu1] at hT1 HS
          simp only [retT, Except.bind] at hT1 HS
          have HT1 := Hd.mk hT1
          have hT2 := hT p1 0 (by omega) (by omega)
          clear hT1 hu1
          cases hu2 : rdN l p1 0 with
          | error er =>
            have he : (er != 0) = true := bne_iff_ne.2 (rdN_err hu2)
            have HX := Hd.mk (show decM b = .error er by rw [HE.out, HS.out, hu2]; rfl)
            rw [hu2] at hT2
            simp only [retT] at hT2
            have HT2 := Hd.mk hT2
            clear hT2 hT hu2 hrd
            obtain ⟨r1, r2, r3, r4, r5, r6, r7, r8, r9, r10, r11⟩ := (HZ0.out.below HQ.out.below hw0).five; obtain ⟨z1, z2, z3, z4, z5, z6, z7, z8, z9, z10, z11⟩ := (HZ1.out.below HQ.out.below hw0').five
            go_wp2_with (first | (go_at_call_of 47 (((p : Nat) : Int)); refine HT1.out.mono ?_; rintro e w' ⟨rfl, rfl⟩) | (go_at_call_of 47 (((p1 : Nat) : Int)); refine HT2.out.mono ?_; rintro e w' ⟨rfl, rfl⟩))
            refine bodyPost_ret (v := .tuple #[.agg #[.int .i64 0, .int .i64 0, .int .i64 0, .int .i64 0, .slice none 0 0], .int .i64 er]) (by simp [results, Tryd.results22, go_sem, r2, r3, r4, r5, r6]) rfl ?_
            exact mf_err HX.out (below_five (HBW.out.trans (HQ.out.below.mono (Nat.le_of_lt hw0))) (Nat.le_refl _) _ _ _ _ _)
          | ok x2 =>
            obtain ⟨s, p2⟩ := x2
            obtain ⟨b1, b2, b3, b4, _⟩ := rdN_ok hu2 (by omega)
            rw [hu2] at hT2 HS
            simp only [retT] at hT2 HS
            have HT2 := Hd.mk hT2
            have hT3 := hT p2 0 (by omega) (by omega)
            clear hT2 hu2 hT hrd
            cases hu3 : rdN l p2 0 with
            | error er =>
              have he : (er != 0) = true := bne_iff_ne.2 (rdN_err hu3)
              have HX := Hd.mk (show decM b = .error er by rw [HE.out, HS.out, hu3]; rfl)
              rw [hu3] at hT3
              simp only [retT] at hT3
              have HT3 := Hd.mk hT3
              clear hT3 hu3
              obtain ⟨r1, r2, r3, r4, r5, r6, r7, r8, r9, r10, r11⟩ := (HZ0.out.below HQ.out.below hw0).five; obtain ⟨z1, z2, z3, z4, z5, z6, z7, z8, z9, z10, z11⟩ := (HZ1.out.below HQ.out.below hw0').five
              go_wp2_with (first | (go_at_call_of 47 (((p : Nat) : Int)); refine HT1.out.mono ?_; rintro e w' ⟨rfl, rfl⟩) | (go_at_call_of 47 (((p1 : Nat) : Int)); refine HT2.out.mono ?_; rintro e w' ⟨rfl, rfl⟩) | (go_at_call_of 47 (((p2 : Nat) : Int)); refine HT3.out.mono ?_; rintro e w' ⟨rfl, rfl⟩))
              refine bodyPost_ret (v := .tuple #[.agg #[.int .i64 0, .int .i64 0, .int .i64 0, .int .i64 0, .slice none 0 0], .int .i64 er]) (by simp [results, Tryd.results22, go_sem, r2, r3, r4, r5, r6]) rfl ?_
              exact mf_err HX.out (below_five (HBW.out.trans (HQ.out.below.mono (Nat.le_of_lt hw0))) (Nat.le_refl _) _ _ _ _ _)
            | ok x3 =>
              obtain ⟨d, p3⟩ := x3
              obtain ⟨d1, d2, d3, d4, _⟩ := rdN_ok hu3 (by omega)
              rw [hu3] at hT3 HS
              simp only [retT] at hT3 HS
              have HT3 := Hd.mk hT3
              clear hT3 hu3
              have hbd : (k + 1) * 24 ≤ 140737488355328 := by omega
              have hgz : w2.heap.size + 1 ≤ wr.heap.size := HQ.out.mb.lt
              have H1C := Hd.mk (svs_one [⟨n, s, d⟩])
              go_wp2_with (first
                | (go_at_call_of 47 (((p : Nat) : Int)); refine HT1.out.mono ?_; rintro e w' ⟨rfl, rfl⟩)
                | (go_at_call_of 47 (((p1 : Nat) : Int)); refine HT2.out.mono ?_; rintro e w' ⟨rfl, rfl⟩)
                | (go_at_call_of 47 (((p2 : Nat) : Int)); refine HT3.out.mono ?_; rintro e w' ⟨rfl, rfl⟩)
                | (at_builtin; refine app_lit Tsg (.tmp 110) (.tmp 115) rfl rfl _ (w2.heap.size + 1) (.slice A3 k c3) k (svs segs) rfl HQ.out.own 1 _ rfl rfl rfl H1C.out hbd hgz (by omega) (by omega) ?_; intro A4 c4 w4 ho4 hb4 hg4 ha4; have HK4 := Hd.mk hb4; have HO4 := Hd.mk ho4; clear ho4 hb4 hg4 ha4; obtain ⟨hMe, me0, me1, me2, me3, me4, ge0, ge1, ge2, ge3, ge4⟩ := (HQ.out.mid HK4.out).five))
              go_roundw
              case rel =>
                have hQ5 := HQ.out.push HK4.out (segs' := segs ++ [⟨n, s, d⟩]) (by rw [svs_app]; exact HO4.out)
                exact ⟨k + 1, p3, n, c4, A4, _, rfl, rfl, by go_num, by omega, d2, a4, by omega, hQ5, ⟨by rw [HS.out, show v5 - (k + 1) = j from by omega]⟩⟩
              case measure => simp [intOf]; omega
      · obtain rfl : k = v5 := by omega
        have HX := Hd.mk (show decM b = decEnd l v1 v2 v3 v4 (segs, p) by rw [HE.out, H.out, Nat.sub_self]; rfl)
        obtain rfl : k = segs.length := by have := HQ.out.own.1; rw [svs_len] at this; omega
        clear hrd
        by_cases hpl : p = l.length
        · subst hpl
          have HX2 := Hd.mk (show decM b = if chkM ⟨v1, v2, v3, v4, segs⟩ ≠ 0 then .error (chkM ⟨v1, v2, v3, v4, segs⟩) else .ok ⟨v1, v2, v3, v4, segs⟩ by rw [HX.out]; unfold decEnd; simp)
          have hC := refCheck_ok ⟨v1, v2, v3, v4, segs⟩ A3 c3 wr (Rd.of_own HQ.out.own) (by show segs.length ≤ _; omega)
          by_cases h9 : chkM ⟨v1, v2, v3, v4, segs⟩ = 0
          · rw [h9] at hC HX2
            have HC := Hd.mk hC
            clear hC h9
            go_wp2_with (go_at_call 11; refine HC.out.mono ?_; rintro r w9 ⟨rfl, hb9⟩; have HQ9 := Hd.mk (HQ.out.later hb9); obtain ⟨hMlt9, m90, m91, m92, m93, m94, g90, g91, g92, g93, g94⟩ := HQ9.out.mb.five; obtain ⟨r1, r2, r3, r4, r5, r6, r7, r8, r9, r10, r11⟩ := (HZ0.out.below HQ9.out.below hw0).five; obtain ⟨z1, z2, z3, z4, z5, z6, z7, z8, z9, z10, z11⟩ := (HZ1.out.below HQ9.out.below hw0').five)
            refine bodyPost_ret (v := .tuple #[.agg #[.int .i64 v1, .int .i64 v2, .int .i64 v3, .int .i64 v4, .slice A3 segs.length c3], .int .i64 0]) (by simp [results, Tryd.results22, go_sem, r2, r3, r4, r5, r6]) rfl ?_
            exact mf_ok (m := ⟨v1, v2, v3, v4, segs⟩) (by rw [HX2.out, if_neg (by simp)]) rfl (own_low (own_five HQ9.out.own (by omega) _ _ _ _ _) (by omega)) (below_five (HBW.out.trans (HQ9.out.below.mono (Nat.le_of_lt hw0))) (Nat.le_refl _) _ _ _ _ _)
          · have hen : (chkM ⟨v1, v2, v3, v4, segs⟩ != 0) = true := bne_iff_ne.2 h9
            have HX3 := Hd.mk (show decM b = .error (chkM ⟨v1, v2, v3, v4, segs⟩) by rw [HX2.out, if_pos h9])
            clear HX2 h9
            generalize chkM ⟨v1, v2, v3, v4, segs⟩ = er at *
            have HC := Hd.mk hC
            clear hC
            go_wp2_with (go_at_call 11; refine HC.out.mono ?_; rintro r w9 ⟨rfl, hb9⟩; have HQ9 := Hd.mk (HQ.out.later hb9); obtain ⟨hMlt9, m90, m91, m92, m93, m94, g90, g91, g92, g93, g94⟩ := HQ9.out.mb.five; obtain ⟨r1, r2, r3, r4, r5, r6, r7, r8, r9, r10, r11⟩ := (HZ0.out.below HQ9.out.below hw0).five; obtain ⟨z1, z2, z3, z4, z5, z6, z7, z8, z9, z10, z11⟩ := (HZ1.out.below HQ9.out.below hw0').five)
            refine bodyPost_ret (v := .tuple #[.agg #[.int .i64 0, .int .i64 0, .int .i64 0, .int .i64 0, .slice none 0 0], .int .i64 er]) (by simp [results, Tryd.results22, go_sem, r2, r3, r4, r5, r6]) rfl ?_
            exact mf_err HX3.out (below_five (HBW.out.trans (HQ9.out.below.mono (Nat.le_of_lt hw0))) (Nat.le_refl _) _ _ _ _ _)
        · have HX2 := Hd.mk (show decM b = .error 85 by rw [HX.out]; unfold decEnd; dsimp only; rw [if_pos hpl])
          have hpb : ((p : Int) != (l.length : Int)) = true := bne_iff_ne.2 (by omega)
          obtain ⟨r1, r2, r3, r4, r5, r6, r7, r8, r9, r10, r11⟩ := (HZ0.out.below HQ.out.below hw0).five; obtain ⟨z1, z2, z3, z4, z5, z6, z7, z8, z9, z10, z11⟩ := (HZ1.out.below HQ.out.below hw0').five
          go_wp2_with fail
          refine bodyPost_ret (v := .tuple #[.agg #[.int .i64 0, .int .i64 0, .int .i64 0, .int .i64 0, .slice none 0 0], .int .i64 85]) (by simp [results, Tryd.results22, go_sem, r2, r3, r4, r5, r6]) rfl ?_
          exact mf_err HX2.out (below_five (HBW.out.trans (HQ.out.below.mono (Nat.le_of_lt hw0))) (Nat.le_refl _) _ _ _ _ _)

theorem refDecode_ok (A : Option Addr) (c : Nat) (b : List UInt8) (w : World) (hr : Rd w w.heap.size A (bv b)) (hl : b.length ≤ 100000000000000) :
    Calls Tryd.prog 22 #[.slice A b.length c] w (MfPost w (decM b)) := by
  by_cases h : ∃ l, rdFrame b 0 = .ok (l, b.length) ∧ l.getD 0 0 = 77
  · obtain ⟨l, h1, h2⟩ := h
    exact refDecode_good A c b l w hr hl h1 h2
  · refine refDecode_bad A c b w hr hl fun body q hq => ?_
    by_cases hb : q = b.length
    · subst hb
      exact .inr fun h77 => h ⟨body, hq, h77⟩
    · exact .inl hb
end Go.Proofs.YtamodllgeabpoaaDoor
