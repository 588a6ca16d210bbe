/- Contracts: Encode of a manifest, the program's. -/
import Derived.Test.YtamodllgeabpoaaDoorManB
namespace Go.Proofs.YtamodllgeabpoaaDoor
open Go.RowKit

/-- whole numbers that are not negative, as cells -/
def nv (l : List Nat) : List Value := l.map fun (n : Nat) => Value.int .i64 (n : Int)
theorem nv_get (l : List Nat) (k : Nat) (h : k < l.length) : (nv l).toArray[k]? = some (.int .i64 ((l[k] : Nat) : Int)) := by simp [nv, h]
theorem BtPost.lift {w w1 w' : World} {r : Except Int (List UInt8)} {e : Ending} (h : BtPost w1 r e w') (hb : Below w.heap.size w w1) : BtPost w r e w' :=
  ⟨h.1, fun l hl => (let ⟨A, c, he, ho⟩ := h.2.1 l hl; ⟨A, c, he, own_low ho hb.size⟩), hb.trans (h.2.2.mono hb.size)⟩
theorem rdps_one (W : World) (Ak : Option Addr) (n ck B : Nat) (seg : List UInt8) (hn : n = seg.length) (hr : Rd W B Ak (bv seg)) (hB : B ≤ W.heap.size) :
    RdPs (W.alloc (.cells #[.slice Ak n ck] 30)) (W.heap.size + 1) (some ⟨W.heap.size, 0, none⟩) [seg] := by
  have hb : Below W.heap.size W (W.alloc (.cells #[.slice Ak n ck] 30)) := (Below.refl _ _).alloc (Nat.le_refl _) _
  intro k hk
  have : k = 0 := by simp at hk; exact hk
  subst this
  refine ⟨W.heap.size, 0, Ak, ck, rfl, by omega, ?_, (hr.below hb hB).more (by omega)⟩
  subst hn
  rw [Nat.add_zero, cell_of_row _ _ 0 _ _ (0, 0) (heap_alloc_new W _)]
  rfl
theorem frame_one (W : World) (Ak : Option Addr) (n ck : Nat) (seg : List UInt8) (hn : n = seg.length) (hr : Rd W W.heap.size Ak (bv seg)) (hT : Tab W) (h0 : 0 < W.heap.size) (hl : seg.length ≤ 140737488355328) :
    Calls Tryd.prog 39 #[.slice (some ⟨W.heap.size, 0, none⟩) 1 1] (W.alloc (.cells #[.slice Ak n ck] 30)) (BtPost W (frameOf seg)) := by
  have hb : Below W.heap.size W (W.alloc (.cells #[.slice Ak n ck] 30)) := (Below.refl _ _).alloc (Nat.le_refl _) _
  have h := frame_ok (some ⟨W.heap.size, 0, none⟩) 1 [seg] (W.alloc (.cells #[.slice Ak n ck] 30)) (by simpa using rdps_one W Ak n ck W.heap.size seg hn hr (Nat.le_refl _)) (hT.below hb h0) (by simp) (by simp) (by simpa using hl)
  refine h.mono fun e w' h => ?_
  have h := h.lift hb
  simpa using h

set_option maxRecDepth 100000 in
set_option maxHeartbeats 4000000 in
theorem encode_ok (m : Mf) (hw : m.wf) (A : Option Addr) (c : Nat) (w : World) (hr : Rd w w.heap.size A (svs m.segs)) (hl : m.segs.length ≤ 1000000000000) (hT : Tab w) (h0 : 0 < w.heap.size) :
    Calls Tryd.prog 14 #[mval m A c] w (BtPost w (encM m)) := by
  obtain ⟨g, v, n, t, segs⟩ := m
  dsimp only at hr hl
  have hb0 : Below w.heap.size w (w.alloc (.cells #[.int .i64 g, .int .i64 v, .int .i64 n, .int .i64 t, .slice A segs.length c] 24)) := (Below.refl _ _).alloc (Nat.le_refl _) _
  have hC := check_ok ⟨g, v, n, t, segs⟩ A c _ ((hr.below hb0 (Nat.le_refl _)).more hb0.size) hl
  by_cases hk : chkM ⟨g, v, n, t, segs⟩ = 0
  · rw [hk] at hC
    obtain ⟨f1, f2, f3, f4, f5, f6, f7, f8, f9, f10⟩ := chkM_ok hk
    have htop := hw.top.2
    dsimp only at f1 f2 f3 f4 f5 f6 f7 f8 f9 f10 htop
    have HSR := Hd.mk (segsOk_range segs (Int.le_refl 0) f6 f10)
    have HE : Hd (encM ⟨g, v, n, t, segs⟩ = frameOf (encBody ⟨g, v, n, t, segs⟩)) := ⟨by unfold encM; rw [if_neg (by simp [hk])]⟩
    obtain ⟨g, rfl⟩ := Int.eq_ofNat_of_zero_le (show 0 ≤ g by omega)
    obtain ⟨v, rfl⟩ := Int.eq_ofNat_of_zero_le (show 0 ≤ v by omega)
    obtain ⟨n, rfl⟩ := Int.eq_ofNat_of_zero_le (show 0 ≤ n by omega)
    obtain ⟨t, rfl⟩ := Int.eq_ofNat_of_zero_le (show 0 ≤ t by omega)
    have HC := Hd.mk hC
    clear hC f10 hk hw
    go_enter Tryd.func14, Tryd.ntmps14
    go_wp2_with (go_at_call 9; refine HC.out.mono ?_; rintro e w1 ⟨rfl, hb1⟩; have hc4 := (hb1.cell (p := ⟨w.heap.size, 4, none⟩) (by simp)).trans (show _ = some (Value.slice A segs.length c) by go_simp); have hc0 := (hb1.cell (p := ⟨w.heap.size, 0, none⟩) (by simp)).trans (show _ = some (Value.int .i64 g) by go_simp); have hc1 := (hb1.cell (p := ⟨w.heap.size, 1, none⟩) (by simp)).trans (show _ = some (Value.int .i64 v) by go_simp); have hc2 := (hb1.cell (p := ⟨w.heap.size, 2, none⟩) (by simp)).trans (show _ = some (Value.int .i64 n) by go_simp); have hc3 := (hb1.cell (p := ⟨w.heap.size, 3, none⟩) (by simp)).trans (show _ = some (Value.int .i64 t) by go_simp); have hz1 : w.heap.size < w1.heap.size := Nat.lt_of_lt_of_le (by simp) hb1.size)
    have hbw1 : Below w.heap.size w w1 := hb0.trans (hb1.mono hb0.size)
    have hblk0 : Blk ((w1.alloc (.cells #[.int .u8 77] 5)).alloc (.cells #[.int .i64 (g : Int), .int .i64 (v : Int), .int .i64 (n : Int), .int .i64 (t : Int), .int .i64 (segs.length : Int)] 3)) (w1.heap.size + 1) 3 (nv [g, v, n, t, segs.length]).toArray := by
      have := Blk.new (w1.alloc (.cells #[.int .u8 77] 5)) 3 (nv [g, v, n, t, segs.length]).toArray
      simpa [nv] using this
    have hown0 : ((w1.alloc (.cells #[.int .u8 77] 5)).alloc (.cells #[.int .i64 (g : Int), .int .i64 (v : Int), .int .i64 (n : Int), .int .i64 (t : Int), .int .i64 (segs.length : Int)] 3)).ownsRow w1.heap.size 5 1 (.slice (some ⟨w1.heap.size, 0, none⟩) 1 1) 1 (bv [77]) :=
      (World.ownsRow_lit (base := w1.heap.size) (e := 5) (size := 1) w1 #[.int .u8 77] 1 (Nat.le_refl _) (by decide) rfl).alloc _
    obtain ⟨xs, hxs⟩ : ∃ xs, xs = [g, v, n, t, segs.length] := ⟨_, rfl⟩
    rw [← hxs] at hblk0
    have hx5 : xs.length = 5 := by rw [hxs]; rfl
    have HXB := Hd.mk (show ∀ x ∈ xs, x ≤ 9223372036854775807 by rw [hxs]; intro x hx; simp at hx; omega)
    have HXS := Hd.mk hxs
    have HX5 := Hd.mk hx5
    clear hxs hx5
    go_loopw [5, 32] (fun body i wr => ∃ (j : Nat) (A1 : Option Addr) (c1 n1 : Nat) (l : List UInt8), j ≤ 5 ∧ i = .int .i64 j ∧ body = .slice A1 n1 c1 ∧ wr.ownsRow w1.heap.size 5 1 (.slice A1 n1 c1) n1 (bv l) ∧ Below w1.heap.size w1 wr ∧ Blk wr (w1.heap.size + 1) 3 (nv xs).toArray ∧ n1 ≤ 1 + 10 * j ∧ Hd (l = 77 :: (xs.take j).flatMap leb ∧ (Value.slice A1 n1 c1).ownBlock ≠ some (w1.heap.size + 1))) (fun _ i _ => 5 - (intOf i).toNat)
    case atStart => exact ⟨0, _, 1, 1, [77], by omega, rfl, rfl, hown0, ((Below.refl _ _).alloc (Nat.le_refl _) _).alloc (by simp) _, hblk0, by omega, ⟨by simp, by simp [Value.ownBlock]⟩⟩
    case round =>
      obtain ⟨j, A1, c1, n1, l, hj, rfl, rfl, ho, hb, hblk, hn1, H⟩ := hrel
      have hz := hb.size
      by_cases hlt : j < 5
      · have hj5 : j < xs.length := by rw [HX5.out]; exact hlt
        have hcj := (hblk.cell j).trans (nv_get xs j hj5)
        have hxb : xs[j] ≤ 9223372036854775807 := HXB.out _ (List.getElem_mem hj5)
        have HT2 := Hd.mk (show xs.take (j + 1) = xs.take j ++ [xs[j]] by rw [List.take_succ_eq_append_getElem hj5])
        have HB := Hd.mk hblk
        clear hblk
        generalize xs[j] = x at *
        have h10 := leb_ten (n := x) ⟨by omega⟩
        go_wp2_with (first
          | (go_at_call 38; refine (uint_ok x ⟨by omega⟩ _).mono ?_; rintro e w2 ⟨A2, c2, rfl, ho2, hb2⟩)
          | (at_builtin; refine app_rd Tb (.tmp 36) (.tmp 39) rfl rfl w1.heap.size (.slice A1 n1 c1) _ (bv l) rfl (own_below ho hb2) w2.heap.size A2 _ c2 (bv (leb x)) rfl ho2.rd (by rw [bv_len]; omega) (bv_one _) (by omega) (by have := hb2.size; omega) (by omega) (by omega) ?_; intro A3 c3 w3 ho3 hb3 hg3 ha3))
        go_roundw
        case rel =>
          refine ⟨j + 1, A3, c3, n1 + (leb x).length, l ++ leb x, by omega, by go_num, rfl, by rw [bv_app]; exact ho3, (hb.trans (hb2.mono hz)).trans hb3, (HB.out.below hb2 HB.out.lt).grown hg3 H.out.2, by omega, ⟨?_, ?_⟩⟩
          · rw [HT2.out, List.flatMap_append, H.out.1]; simp
          · rcases ha3 with ha | ha
            · rw [ha]; exact H.out.2
            · rw [ha]; intro e; injection e with e; have := HB.out.lt; have := hb2.size; omega
        case measure => simp [intOf]; omega
      · have hc4r := (hb.cell (p := ⟨w.heap.size, 4, none⟩) (by exact hz1)).trans hc4
        have HL5 := Hd.mk (show l = 77 :: xs.flatMap leb by rw [H.out.1, List.take_of_length_le (by rw [HX5.out]; omega)])
        clear hblk hn1 hc0 hc1 hc2 hc3
        have hn51 : n1 ≤ 51 := by have h1 := ret_bv ho; rw [HL5.out] at h1; have h2 := flatMap_leb_len xs (fun x hx => by have := HXB.out x hx; omega); rw [HX5.out] at h2; simp only [List.length_cons] at h1; omega
        go_wp2_with fail
        go_loopw [5, 8, 45] (fun body last i wr => ∃ (k : Nat) (A1 : Option Addr) (c1 n1 : Nat) (l : List UInt8), k ≤ segs.length ∧ i = .int .i64 k ∧ last = .int .i64 (lastOf segs k) ∧ body = .slice A1 n1 c1 ∧ wr.ownsRow w1.heap.size 5 1 (.slice A1 n1 c1) n1 (bv l) ∧ Below w1.heap.size w1 wr ∧ n1 ≤ 51 + 30 * k ∧ Hd (l = 77 :: (xs ++ segNums 0 (segs.take k)).flatMap leb)) (fun _ _ i _ => segs.length - (intOf i).toNat)
        case atStart => exact ⟨0, A1, c1, n1, l, by omega, rfl, rfl, rfl, ho, hb, by omega, ⟨by simp [segNums]; exact HL5.out⟩⟩
        case round =>
          obtain ⟨k, A3, c3, n3, l3, hk3, rfl, rfl, rfl, ho3, hb3, hn3, H3⟩ := hrel
          have hz3 := hb3.size
          by_cases hlt2 : k < segs.length
          · obtain ⟨b, off, rfl, hab, d0, d1, d2⟩ := (hr.below (hbw1.trans (hb3.mono hbw1.size)) (Nat.le_refl _)).seg hlt2
            obtain ⟨r1, r2, r3, r4, r5, r6, r7, r8⟩ := HSR.out k hlt2
            have HN := Hd.mk (segNums_take segs 0 k hlt2)
            have HLst := Hd.mk (show lastOf segs (k + 1) = (segs[k]).num by simp [lastOf, hlt2])
            have hl0 : (if 0 < k then lastOf segs k else 0) = lastOf segs k := by unfold lastOf; split <;> rfl
            rw [hl0] at HN r3
            have hln : 0 ≤ lastOf segs k := by unfold lastOf at r2 ⊢; split <;> simp_all
            clear hr hl0 r2
            generalize segs[k] = s at *
            obtain ⟨num, size, count⟩ := s
            generalize lastOf segs k = la at *
            dsimp only at d0 d1 d2 r3 r4 r5 r6 r7 r8 HN HLst
            go_wp2_with fail
            have hds : #[Value.int .i64 (num - la), .int .i64 size, .int .i64 count] = (nv [(num - la).toNat, size.toNat, count.toNat]).toArray := by
              simp only [nv, List.map_cons, List.map_nil]
              rw [show (((num - la).toNat : Nat) : Int) = num - la from by omega, show ((size.toNat : Nat) : Int) = size from by omega, show ((count.toNat : Nat) : Int) = count from by omega]
            have hblk1 := Blk.new (wr.alloc (.cells #[.int .i64 num, .int .i64 size, .int .i64 count] 45)) 3 #[Value.int .i64 (num - la), .int .i64 size, .int .i64 count]
            rw [hds] at hblk1
            have hblk2 := (Blk.new wr 45 #[.int .i64 num, .int .i64 size, .int .i64 count]).alloc (.cells #[Value.int .i64 (num - la), .int .i64 size, .int .i64 count] 3)
            have howr : ∀ q, (Value.slice A3 n3 c3).ownBlock = some q → q < wr.heap.size := fun q hq => (ho3.lt q hq).2
            have hown1 := (ho3.alloc (.cells #[.int .i64 num, .int .i64 size, .int .i64 count] 45)).alloc (.cells #[Value.int .i64 (num - la), .int .i64 size, .int .i64 count] 3)
            have hbel1 := (hb3.alloc hz3 (.cells #[.int .i64 num, .int .i64 size, .int .i64 count] 45)).alloc (by simp; omega) (.cells #[Value.int .i64 (num - la), .int .i64 size, .int .i64 count] 3)
            have HOW := Hd.mk howr
            rw [show (wr.alloc (.cells #[.int .i64 num, .int .i64 size, .int .i64 count] 45)).heap.size = wr.heap.size + 1 from by simp] at hblk1
            rw [← hds] at hblk1
            obtain ⟨ys, hys⟩ : ∃ ys, ys = [(num - la).toNat, size.toNat, count.toNat] := ⟨_, rfl⟩
            rw [← hys] at hds HN
            have hy3 : ys.length = 3 := by rw [hys]; rfl
            have HYB := Hd.mk (show ∀ x ∈ ys, x ≤ 9223372036854775807 by rw [hys]; intro x hx; simp at hx; omega)
            have HY3 := Hd.mk hy3
            replace hblk1 : Blk ((wr.alloc (.cells #[.int .i64 num, .int .i64 size, .int .i64 count] 45)).alloc (.cells #[Value.int .i64 (num - la), .int .i64 size, .int .i64 count] 3)) (wr.heap.size + 1) 3 (nv ys).toArray := by
              unfold Blk at hblk1 ⊢
              rw [hblk1, hds]
            clear hys hy3 howr hds
            have hsz2 : wr.heap.size + 1 < ((wr.alloc (.cells #[.int .i64 num, .int .i64 size, .int .i64 count] 45)).alloc (.cells #[Value.int .i64 (num - la), .int .i64 size, .int .i64 count] 3)).heap.size := by simp
            go_loopw [5, 59] (fun body i wq => ∃ (j : Nat) (A1 : Option Addr) (c1 n1 : Nat) (l : List UInt8), j ≤ 3 ∧ i = .int .i64 j ∧ body = .slice A1 n1 c1 ∧ wq.ownsRow w1.heap.size 5 1 (.slice A1 n1 c1) n1 (bv l) ∧ Below w1.heap.size w1 wq ∧ Blk wq wr.heap.size 45 #[.int .i64 num, .int .i64 size, .int .i64 count] ∧ Blk wq (wr.heap.size + 1) 3 (nv ys).toArray ∧ n1 ≤ n3 + 10 * j ∧ Hd (l = l3 ++ (ys.take j).flatMap leb ∧ (Value.slice A1 n1 c1).ownBlock ≠ some wr.heap.size ∧ (Value.slice A1 n1 c1).ownBlock ≠ some (wr.heap.size + 1))) (fun _ i _ => 3 - (intOf i).toNat)
            case atStart => exact ⟨0, A3, c3, n3, l3, by omega, rfl, rfl, hown1, hbel1, hblk2, hblk1, by omega, ⟨by simp, fun e => (by have := HOW.out _ e; omega), fun e => (by have := HOW.out _ e; omega)⟩⟩
            case round =>
              obtain ⟨j2, A4, c4, n4, l4, hj4, rfl, rfl, ho4, hb4, hB1, hB2, hn4, H4⟩ := hrel
              have hz4 := hb4.size
              by_cases hlt4 : j2 < 3
              · have hj3 : j2 < ys.length := by rw [HY3.out]; exact hlt4
                have hcj := (hB2.cell j2).trans (nv_get ys j2 hj3)
                have hxb : ys[j2] ≤ 9223372036854775807 := HYB.out _ (List.getElem_mem hj3)
                have HT2 := Hd.mk (show ys.take (j2 + 1) = ys.take j2 ++ [ys[j2]] by rw [List.take_succ_eq_append_getElem hj3])
                have HB1 := Hd.mk hB1
                have HB2 := Hd.mk hB2
                clear hB1 hB2
                generalize ys[j2] = x at *
                have h10 := leb_ten (n := x) ⟨by omega⟩
                go_wp2_with (first
                  | (go_at_call 38; refine (uint_ok x ⟨by omega⟩ _).mono ?_; rintro e w2 ⟨A5, c5, rfl, ho5, hb5⟩)
                  | (at_builtin; refine app_rd Tb (.tmp 63) (.tmp 66) rfl rfl w1.heap.size (.slice A4 n4 c4) _ (bv l4) rfl (own_below ho4 hb5) w2.heap.size A5 _ c5 (bv (leb x)) rfl ho5.rd (by rw [bv_len]; omega) (bv_one _) (by omega) (by have := hb5.size; omega) (by omega) (by omega) ?_; intro A6 c6 w6 ho6 hb6 hg6 ha6))
                go_roundw
                case rel =>
                  have hnew : ∀ q, q < w2.heap.size → (Value.slice A4 n4 c4).ownBlock ≠ some q → (Value.slice A6 (n4 + (leb x).length) c6).ownBlock ≠ some q := by
                    intro q hq hne
                    rcases ha6 with ha | ha
                    · rw [ha]; exact hne
                    · rw [ha]; intro e; injection e with e; omega
                  refine ⟨j2 + 1, A6, c6, n4 + (leb x).length, l4 ++ leb x, by omega, by go_num, rfl, by rw [bv_app]; exact ho6, (hb4.trans (hb5.mono hz4)).trans hb6, (HB1.out.below hb5 HB1.out.lt).grown hg6 H4.out.2.1, (HB2.out.below hb5 HB2.out.lt).grown hg6 H4.out.2.2, by omega, ⟨?_, hnew _ (by have := HB1.out.lt; have := hb5.size; omega) H4.out.2.1, hnew _ (by have := HB2.out.lt; have := hb5.size; omega) H4.out.2.2⟩⟩
                  rw [HT2.out, List.flatMap_append, H4.out.1]; simp
                case measure => simp [intOf]; omega
              · have e0 := (hB1.cell 0).trans (show _ = some (Value.int .i64 num) from rfl)
                have HL4 := Hd.mk (show l4 = l3 ++ ys.flatMap leb by rw [H4.out.1, List.take_of_length_le (by rw [HY3.out]; omega)])
                clear hB1 hB2
                go_wp2_with fail
                go_roundw
                case rel =>
                  refine ⟨k + 1, A4, c4, n4, l4, by omega, by go_num, by rw [HLst.out], rfl, ho4, hb4, by omega, ⟨?_⟩⟩
                  rw [HL4.out, H3.out, HN.out]
                  simp [List.flatMap_append]
                case measure => simp [intOf]; omega
          · have HLl := Hd.mk (show l3 = encBody ⟨g, v, n, t, segs⟩ by rw [H3.out, List.take_of_length_le (by omega)]; simp [encBody, headNums, HXS.out])
            have hlen3 := ret_bv ho3
            have HFo := Hd.mk (frameOf_ok (l := l3) (by rw [H3.out]; simp) (by omega))
            have hbwr : Below w.heap.size w wr := hbw1.trans (hb3.mono hbw1.size)
            have HFr := Hd.mk (frame_one wr A3 n3 c3 l3 hlen3 (Rd.of_own ho3) (hT.below hbwr h0) (by have := hbwr.size; omega) (by omega))
            clear hlen3
            go_wp2_with (go_at_call 39; refine HFr.out.mono ?_; rintro e w9 ⟨_, hok, hb9⟩; obtain ⟨A9, c9, rfl, ho9⟩ := hok _ HFo.out; clear hok)
            go_ret2
            exact bt_ok (by rw [HE.out, ← HLl.out, HFo.out]) rfl (own_low ho9 hbwr.size) (hbwr.trans (hb9.mono hbwr.size))
  · have he : (chkM ⟨g, v, n, t, segs⟩ != 0) = true := bne_iff_ne.2 hk
    have HE : Hd (encM ⟨g, v, n, t, segs⟩ = .error (chkM ⟨g, v, n, t, segs⟩)) := ⟨by unfold encM; rw [if_pos hk]⟩
    generalize chkM ⟨g, v, n, t, segs⟩ = e0 at *
    have HC := Hd.mk hC
    clear hC
    go_enter Tryd.func14, Tryd.ntmps14
    go_wp2_with (go_at_call 9; refine HC.out.mono ?_; rintro e w1 ⟨rfl, hb1⟩)
    go_ret2
    exact bt_err HE.out (hb0.trans (hb1.mono hb0.size))
end Go.Proofs.YtamodllgeabpoaaDoor
