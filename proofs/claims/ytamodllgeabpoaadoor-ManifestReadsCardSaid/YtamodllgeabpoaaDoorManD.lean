/- Contracts: Encode of a manifest, the reference's. -/
import Derived.Test.YtamodllgeabpoaaDoorManC
namespace Go.Proofs.YtamodllgeabpoaaDoor
open Go.RowKit

theorem Ti : SlT Tryd.prog 74 3 1 8 := ⟨Tryd.underlying74, by kernel_rfl⟩
theorem nv_len (l : List Nat) : (nv l).length = l.length := by simp [nv]
theorem nv_app (a b : List Nat) : nv (a ++ b) = nv a ++ nv b := by simp [nv]
theorem nv_one (l : List Nat) : ∀ u ∈ nv l, u.oneCell' = true := by intro u hu; simp only [nv, List.mem_map] at hu; obtain ⟨x, _, rfl⟩ := hu; rfl
theorem nv_get' (l : List Nat) (k : Nat) (h : k < l.length) : (nv l)[k]? = some (.int .i64 ((l[k] : Nat) : Int)) := by simp [nv, h]

set_option maxRecDepth 100000 in
set_option maxHeartbeats 4000000 in
theorem numbers_ok (m : Mf) (hw : m.wf) (hk : chkM m = 0) (A : Option Addr) (c : Nat) (w : World) (hr : Rd w w.heap.size A (svs m.segs)) :
    Calls Tryd.prog 40 #[mval m A c] w fun e w' => ∃ A' c' n, e = .returned (.slice A' n c') ∧ w'.ownsRow w.heap.size 3 1 (.slice A' n c') n (nv (headNums m ++ segNums 0 m.segs)) ∧ Below w.heap.size w w' := by
  obtain ⟨g, v, n, t, segs⟩ := m
  dsimp only at hr
  have hb0 : Below w.heap.size w (w.alloc (.cells #[.int .i64 g, .int .i64 v, .int .i64 n, .int .i64 t, .slice A segs.length c] 24)) := (Below.refl _ _).alloc (Nat.le_refl _) _
  obtain ⟨f1, f2, f3, f4, f5, f6, f7, f8, f9, f10⟩ := chkM_ok hk
  have htop := hw.top.2
  dsimp only at f1 f2 f3 f4 f5 f6 f7 f8 f9 f10 htop
  have HSR := Hd.mk (segsOk_range segs (Int.le_refl 0) f6 f10)
  have HH : Hd (headNums ⟨g, v, n, t, segs⟩ = _) := ⟨rfl⟩
  obtain ⟨g, rfl⟩ := Int.eq_ofNat_of_zero_le (show 0 ≤ g by omega)
  obtain ⟨v, rfl⟩ := Int.eq_ofNat_of_zero_le (show 0 ≤ v by omega)
  obtain ⟨n, rfl⟩ := Int.eq_ofNat_of_zero_le (show 0 ≤ n by omega)
  obtain ⟨t, rfl⟩ := Int.eq_ofNat_of_zero_le (show 0 ≤ t by omega)
  clear f10 hk hw
  have hbox := Blk.new w 24 #[.int .i64 (g : Int), .int .i64 (v : Int), .int .i64 (n : Int), .int .i64 (t : Int), .slice A segs.length c]
  have hbox2 := hbox.alloc (.cells #[.int .i64 (g : Int), .int .i64 (v : Int), .int .i64 (n : Int), .int .i64 (t : Int), .int .i64 (segs.length : Int)] 3)
  have hown0 : ((w.alloc (.cells #[.int .i64 (g : Int), .int .i64 (v : Int), .int .i64 (n : Int), .int .i64 (t : Int), .slice A segs.length c] 24)).alloc (.cells #[.int .i64 (g : Int), .int .i64 (v : Int), .int .i64 (n : Int), .int .i64 (t : Int), .int .i64 (segs.length : Int)] 3)).ownsRow (w.heap.size + 1) 3 1 (.slice (some ⟨w.heap.size + 1, 0, none⟩) 5 5) 5 (nv [g, v, n, t, segs.length]) := by
    have h := World.ownsRow_lit (base := w.heap.size + 1) (e := 3) (size := 1) (w.alloc (.cells #[.int .i64 (g : Int), .int .i64 (v : Int), .int .i64 (n : Int), .int .i64 (t : Int), .slice A segs.length c] 24)) #[.int .i64 (g : Int), .int .i64 (v : Int), .int .i64 (n : Int), .int .i64 (t : Int), .int .i64 (segs.length : Int)] 5 (by simp) (by decide) rfl
    simpa [nv] using h
  have hb2 := hb0.alloc (by simp) (.cells #[.int .i64 (g : Int), .int .i64 (v : Int), .int .i64 (n : Int), .int .i64 (t : Int), .int .i64 (segs.length : Int)] 3)
  have HBX := Hd.mk hbox2
  clear hbox hbox2 hb0
  go_enter Tryd.func40, Tryd.ntmps40
  go_wp2_with fail
  go_loopw [3, 4, 5] (fun out last i wr => ∃ (k : Nat) (A1 : Option Addr) (c1 n1 : Nat) (l : List Nat), k ≤ segs.length ∧ i = .int .i64 k ∧ last = .int .i64 (lastOf segs k) ∧ out = .slice A1 n1 c1 ∧ wr.ownsRow (w.heap.size + 1) 3 1 (.slice A1 n1 c1) n1 (nv l) ∧ Below w.heap.size w wr ∧ wr.cell? ⟨w.heap.size, 4, none⟩ = some (.slice A segs.length c) ∧ w.heap.size + 1 < wr.heap.size ∧ n1 ≤ 5 + 3 * k ∧ Hd (l = headNums ⟨(g : Int), (v : Int), (n : Int), (t : Int), segs⟩ ++ segNums 0 (segs.take k))) (fun _ _ i _ => segs.length - (intOf i).toNat)
  case atStart => exact ⟨0, _, 5, 5, _, by omega, rfl, rfl, rfl, hown0, hb2, (HBX.out.cell 4).trans rfl, by simp, by omega, ⟨by simp [segNums, headNums]⟩⟩
  case round =>
    obtain ⟨k, A3, c3, n3, l3, hk3, rfl, rfl, rfl, ho3, hb3, hc4, hz3, hn3, H3⟩ := hrel
    by_cases hlt2 : k < segs.length
    · obtain ⟨b, off, rfl, hab, d0, d1, d2⟩ := (hr.below hb3 (Nat.le_refl _)).seg hlt2
      obtain ⟨r1, r2, r3, r4, r5, r6, r7, r8⟩ := HSR.out k hlt2
      have HN := Hd.mk (segNums_take segs 0 k hlt2)
      have HLst := Hd.mk (show lastOf segs (k + 1) = (segs[k]).num by simp [lastOf, hlt2])
      have hl0 : (if 0 < k then lastOf segs k else 0) = lastOf segs k := by unfold lastOf; split <;> rfl
      rw [hl0] at HN r3
      have hln : 0 ≤ lastOf segs k := by unfold lastOf at r2 ⊢; split <;> simp_all
      clear hr hl0 r2
      generalize segs[k] = s at *
      obtain ⟨num, size, count⟩ := s
      generalize lastOf segs k = la at *
      dsimp only at d0 d1 d2 r3 r4 r5 r6 r7 r8 HN HLst
      have hds : nv l3 ++ #[Value.int .i64 (num - la), .int .i64 size, .int .i64 count].toList = nv (l3 ++ [(num - la).toNat, size.toNat, count.toNat]) := by
        rw [nv_app]
        simp only [nv, List.map_cons, List.map_nil]
        rw [show (((num - la).toNat : Nat) : Int) = num - la from by omega, show ((size.toNat : Nat) : Int) = size from by omega, show ((count.toNat : Nat) : Int) = count from by omega]
      have HDS := Hd.mk hds
      have howr : ∀ q, (Value.slice A3 n3 c3).ownBlock = some q → q < wr.heap.size := fun q hq => (ho3.lt q hq).2
      have HOW := Hd.mk howr
      have hsb := Blk.new wr 45 #[.int .i64 num, .int .i64 size, .int .i64 count]
      have HSB := Hd.mk hsb
      clear hds howr hsb
      go_wp2_with (at_builtin; refine app_lit Ti (.tmp 31) (.tmp 40) rfl rfl _ (w.heap.size + 1) (.slice A3 n3 c3) _ (nv l3) rfl (ho3.alloc _) 3 _ rfl (by simp) rfl (by simp; exact ⟨rfl, rfl, rfl⟩) (by omega) (by simp; omega) (by omega) (by omega) ?_; intro A6 c6 w6 ho6 hb6 hg6 ha6; have hq := (HSB.out.grown hg6 (fun e => (by have := HOW.out _ e; omega))).cell 0; have hq2 : w6.cell? ⟨wr.heap.size, 0, none⟩ = some (.int .i64 num) := hq.trans rfl; clear hq)
      go_roundw
      case rel =>
        have hbx : Below (w.heap.size + 1) wr w6 := ((Below.refl _ _).alloc (by omega) _).trans hb6
        have hs6 := hbx.size
        refine ⟨k + 1, A6, c6, n3 + 3, _, by omega, by go_num, by rw [HLst.out], rfl, by rw [← HDS.out]; exact ho6, hb3.trans (hbx.mono (by omega)), (hbx.cell (by exact Nat.lt_succ_self _)).trans hc4, by omega, by omega, ⟨?_⟩⟩
        rw [H3.out, HN.out, List.append_assoc]
      case measure => simp [intOf]; omega
    · have HL := Hd.mk (show l3 = headNums ⟨(g : Int), (v : Int), (n : Int), (t : Int), segs⟩ ++ segNums 0 segs by rw [H3.out, List.take_of_length_le (by omega)])
      go_wp2_with fail
      go_ret
      exact ⟨A3, c3, n3, rfl, by rw [← HL.out]; exact own_low ho3 (by omega), hb3⟩

theorem nums_le (m : Mf) (hw : m.wf) (hk : chkM m = 0) : (headNums m ++ segNums 0 m.segs).length ≤ 400 ∧ ∀ x ∈ headNums m ++ segNums 0 m.segs, x ≤ 9223372036854775807 := by
  obtain ⟨g, v, n, t, segs⟩ := m
  obtain ⟨f1, f2, f3, f4, f5, f6, f7, f8, f9, f10⟩ := chkM_ok hk
  have htop := hw.top.2
  dsimp only at f1 f2 f3 f4 f5 f6 f7 f8 f9 f10 htop
  refine ⟨by rw [List.length_append, segNums_len]; simp [headNums]; omega, fun x hx => ?_⟩
  rcases List.mem_append.1 hx with h | h
  · simp [headNums] at h; omega
  · have key : ∀ (l : List Sg) (last : Int), 0 ≤ last → segsOk n last l = true → ∀ x ∈ segNums last l, x ≤ 9223372036854775807 := by
      intro l
      induction l with
      | nil => intro last _ _ x hx; simp [segNums] at hx
      | cons s r ih =>
        intro last h0 h x hx
        simp only [segsOk, Bool.and_eq_true, decide_eq_true_eq] at h
        obtain ⟨⟨⟨a1, a2⟩, a3⟩, a4⟩ := h
        have hr := endOk_range a3
        simp only [segNums, List.mem_cons] at hx
        rcases hx with rfl | rfl | rfl | hx
        · omega
        · omega
        · omega
        · exact ih s.num (by omega) a4 x hx
    exact key segs 0 (Int.le_refl 0) f10 x h

set_option maxRecDepth 100000 in
set_option maxHeartbeats 4000000 in
theorem refEncode_ok (m : Mf) (hw : m.wf) (A : Option Addr) (c : Nat) (w : World) (hr : Rd w w.heap.size A (svs m.segs)) (hl : m.segs.length ≤ 1000000000000) :
    Calls Tryd.prog 15 #[mval m A c] w (BtPost w (encM m)) := by
  have hnl := nums_le m hw
  have hN := fun hk => numbers_ok m hw hk A c
  obtain ⟨g, v, n, t, segs⟩ := m
  dsimp only at hr hl hnl hN
  have hb0 : Below w.heap.size w (w.alloc (.cells #[.int .i64 g, .int .i64 v, .int .i64 n, .int .i64 t, .slice A segs.length c] 24)) := (Below.refl _ _).alloc (Nat.le_refl _) _
  have hC := refCheck_ok ⟨g, v, n, t, segs⟩ A c _ ((hr.below hb0 (Nat.le_refl _)).more hb0.size) hl
  by_cases hk : chkM ⟨g, v, n, t, segs⟩ = 0
  · rw [hk] at hC
    have HE : Hd (encM ⟨g, v, n, t, segs⟩ = frameOf (encBody ⟨g, v, n, t, segs⟩)) := ⟨by unfold encM; rw [if_neg (by simp [hk])]⟩
    have HN := Hd.mk (hN hk)
    obtain ⟨hn1, hn2⟩ := hnl hk
    have HB2 : Hd (encBody ⟨g, v, n, t, segs⟩ = 77 :: (headNums ⟨g, v, n, t, segs⟩ ++ segNums 0 segs).flatMap leb) := ⟨rfl⟩
    obtain ⟨xs, hxs⟩ : ∃ xs, xs = headNums ⟨g, v, n, t, segs⟩ ++ segNums 0 segs := ⟨_, rfl⟩
    rw [← hxs] at HN hn1 hn2 HB2
    have HXB := Hd.mk hn2
    have HC := Hd.mk hC
    clear hC hk hw hN hxs hnl hn2
    have HR := Hd.mk hr
    have hbox := Blk.new w 24 #[.int .i64 g, .int .i64 v, .int .i64 n, .int .i64 t, .slice A segs.length c]
    have HBX := Hd.mk hbox
    clear hbox hr
    go_enter Tryd.func15, Tryd.ntmps15
    go_wp2_with (first
      | (go_at_call 11; refine HC.out.mono ?_; rintro e w1 ⟨rfl, hb1⟩; have hbw1 : Below w.heap.size w w1 := hb0.trans (hb1.mono hb0.size); have hB1 := HBX.out.below hb1 HBX.out.lt; have hz1 := hB1.lt; have d0 := (hB1.cell 0).trans (show _ = some (Value.int .i64 g) from rfl); have d1 := (hB1.cell 1).trans (show _ = some (Value.int .i64 v) from rfl); have d2 := (hB1.cell 2).trans (show _ = some (Value.int .i64 n) from rfl); have d3 := (hB1.cell 3).trans (show _ = some (Value.int .i64 t) from rfl); have d4 := (hB1.cell 4).trans (show _ = some (Value.slice A segs.length c) from rfl); clear hB1)
      | (go_at_call 40; refine (HN.out _ (((HR.out.below hbw1 (Nat.le_refl _)).more hbw1.size).below ((Below.refl _ _).alloc (Nat.le_refl _) _) (Nat.le_refl _) |>.more (by simp))).mono ?_; rintro e w2 ⟨A2, c2, n2, rfl, ho2, hb2⟩))
    have hz2 : w1.heap.size + 1 ≤ w2.heap.size := by have := hb2.size; simp at this; exact this
    have hown0 : w2.ownsRow w1.heap.size 5 1 (.slice (some ⟨w1.heap.size, 0, none⟩) 1 1) 1 (bv [77]) :=
      own_below (World.ownsRow_lit (base := w1.heap.size) (e := 5) (size := 1) w1 #[.int .u8 77] 1 (Nat.le_refl _) (by decide) rfl) hb2
    have hbw2 : Below w1.heap.size w1 w2 := ((Below.refl _ _).alloc (Nat.le_refl _) _).trans (hb2.mono (by simp))
    have hnx : n2 = xs.length := by have := ho2.1; rw [nv_len] at this; omega
    subst hnx
    clear d0 d1 d2 d3 d4 hb2
    go_loopw [5, 7] (fun body i wr => ∃ (j : Nat) (A1 : Option Addr) (c1 n1 : Nat) (l : List UInt8), j ≤ xs.length ∧ i = .int .i64 j ∧ body = .slice A1 n1 c1 ∧ wr.ownsRow w1.heap.size 5 1 (.slice A1 n1 c1) n1 (bv l) ∧ Below w1.heap.size w1 wr ∧ wr.ownsRow (w1.heap.size + 1) 3 1 (.slice A2 xs.length c2) xs.length (nv xs) ∧ n1 ≤ 1 + 10 * j ∧ Hd (l = 77 :: (xs.take j).flatMap leb)) (fun _ i _ => xs.length - (intOf i).toNat)
    case atStart => exact ⟨0, _, 1, 1, [77], by omega, rfl, rfl, hown0, hbw2, own_low ho2 (by simp), by omega, ⟨by simp⟩⟩
    case round =>
      obtain ⟨j, A1, c1, n1, l, hj, rfl, rfl, ho, hb, hox, hn1, H⟩ := hrel
      have hz := hb.size
      by_cases hlt : j < xs.length
      · obtain ⟨gb, goff, rfl, hgb, hcj⟩ := (Rd.of_own hox).at_ (nv_get' xs j hlt)
        have hxb : xs[j] ≤ 9223372036854775807 := HXB.out _ (List.getElem_mem hlt)
        have HT2 := Hd.mk (show xs.take (j + 1) = xs.take j ++ [xs[j]] by rw [List.take_succ_eq_append_getElem hlt])
        have HOX := Hd.mk hox
        clear hox
        generalize xs[j] = x at *
        have h10 := leb_ten (n := x) ⟨by omega⟩
        go_wp2_with (first
          | (go_at_call 41; refine (refUint_ok x ⟨by omega⟩ _).mono ?_; rintro e w5 ⟨A5, c5, rfl, ho5, hb5⟩)
          | (at_builtin; refine app_rd Tb (.tmp 22) (.tmp 28) rfl rfl w1.heap.size (.slice A1 n1 c1) _ (bv l) rfl (own_below ho hb5) w5.heap.size A5 _ c5 (bv (leb x)) rfl ho5.rd (by rw [bv_len]; omega) (bv_one _) (by omega) (by have := hb5.size; omega) (by omega) (by omega) ?_; intro A3 c3 w3 ho3 hb3 hg3 ha3))
        go_roundw
        case rel =>
          refine ⟨j + 1, A3, c3, n1 + (leb x).length, l ++ leb x, by omega, by go_num, rfl, by rw [bv_app]; exact ho3, (hb.trans (hb5.mono hz)).trans hb3, own_grown (own_below HOX.out hb5) (own_below ho hb5) (by decide) hg3, by omega, ⟨?_⟩⟩
          rw [HT2.out, List.flatMap_append, H.out]; simp
        case measure => simp [intOf]; omega
      · have HL := Hd.mk (show l = encBody ⟨g, v, n, t, segs⟩ by rw [HB2.out, H.out, List.take_of_length_le (by omega)])
        have hlen := ret_bv ho
        have HFo := Hd.mk (frameOf_ok (l := l) (by rw [H.out]; simp) (by omega))
        have hbwr : Below w.heap.size w wr := hbw1.trans (hb.mono hbw1.size)
        subst hlen
        go_wp2_with (go_at_call 42; refine (refFrame_ok A1 c1 l wr (Rd.of_own ho) (by omega)).mono ?_; rintro e w9 ⟨_, hok, hb9⟩; obtain ⟨A9, c9, rfl, ho9⟩ := hok _ HFo.out; clear hok)
        go_ret2
        exact bt_ok (by rw [HE.out, ← HL.out, HFo.out]) rfl (own_low ho9 hbwr.size) (hbwr.trans (hb9.mono hbwr.size))
  · have he : (chkM ⟨g, v, n, t, segs⟩ != 0) = true := bne_iff_ne.2 hk
    have HE : Hd (encM ⟨g, v, n, t, segs⟩ = .error (chkM ⟨g, v, n, t, segs⟩)) := ⟨by unfold encM; rw [if_pos hk]⟩
    clear hnl hN
    generalize chkM ⟨g, v, n, t, segs⟩ = e0 at *
    have HC := Hd.mk hC
    clear hC
    go_enter Tryd.func15, Tryd.ntmps15
    go_wp2_with (go_at_call 11; refine HC.out.mono ?_; rintro e w1 ⟨rfl, hb1⟩)
    go_ret2
    exact bt_err HE.out (hb0.trans (hb1.mono hb0.size))
end Go.Proofs.YtamodllgeabpoaaDoor
