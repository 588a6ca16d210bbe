/- Contract: ManifestChecks answers true, whatever it is handed. -/
import Derived.Test.YtamodllgeabpoaaDoorLawC
import Derived.Deep.RegionHeld3
namespace Go.Proofs.YtamodllgeabpoaaDoor
open Go.RowKit

theorem chk_zero : (chkM ⟨0, 0, 0, 0, []⟩ == 0) = false := by decide
theorem wf_small : Mf.wf ⟨1, 3, 2, 0, [⟨1, 0, 0⟩]⟩ := ⟨⟨by decide, by decide⟩, ⟨by decide, by decide⟩, ⟨by decide, by decide⟩, ⟨by decide, by decide⟩, fun s hs => by obtain rfl := List.mem_singleton.1 hs; exact ⟨⟨by decide, by decide⟩, ⟨by decide, by decide⟩, ⟨by decide, by decide⟩⟩⟩

/-- a manifest in a box, its list, another box of which nothing is asked but that it stays -/
structure TwoB (w : World) (g0 : Nat) (m0 : Mf) (A0 : Option Addr) (c0 : Nat) (gt : Nat) (m : Mf) (A : Option Addr) (c : Nat) (w' : World) : Prop where
  os : OS w g0 m0 A0 c0 w'
  mb : Blk w' gt 24 #[.int .i64 m.gen, .int .i64 m.v, .int .i64 m.next, .int .i64 m.top, .slice A m.segs.length c]
  rd : Rd w' w'.heap.size A (svs m.segs)
theorem TwoB.later {w w' w'' : World} {g0 : Nat} {m0 : Mf} {A0 : Option Addr} {c0 gt : Nat} {m : Mf} {A : Option Addr} {c : Nat} (h : TwoB w g0 m0 A0 c0 gt m A c w') (hb : Below w'.heap.size w' w'') : TwoB w g0 m0 A0 c0 gt m A c w'' :=
  ⟨h.os.later hb, h.mb.below hb h.mb.lt, (h.rd.below hb (Nat.le_refl _)).more hb.size⟩
theorem TwoB.drew {w w' : World} {g0 : Nat} {m0 : Mf} {A0 : Option Addr} {c0 gt : Nat} {m : Mf} {A : Option Addr} {c : Nat} (h : TwoB w g0 m0 A0 c0 gt m A c w') : TwoB w g0 m0 A0 c0 gt m A c w'.drew := h.later (Below.refl _ _).drew

/-- a manifest in a box, its twin with marks behind its list in another; all below H1 -/
structure CkS (w : World) (A : Option Addr) (c H1 gi g8 c8 : Nat) (m : Mf) (w' : World) : Prop where
  below : Below w.heap.size w w'
  le : H1 ≤ w'.heap.size
  lo : w.heap.size < H1
  hi : gi < H1
  mb : Blk w' w.heap.size 24 #[.int .i64 m.gen, .int .i64 m.v, .int .i64 m.next, .int .i64 m.top, .slice A m.segs.length c]
  ib : Blk w' gi 24 #[.int .i64 m.gen, .int .i64 m.v, .int .i64 m.next, .int .i64 m.top, .slice (some ⟨g8, 0, none⟩) m.segs.length c8]
  row : Rd w' H1 (some ⟨g8, 0, none⟩) (svs (m.segs ++ mk2))
section
variable {w w' w'' : World} {A : Option Addr} {c H1 gi g8 c8 : Nat} {m : Mf}
theorem CkS.grown (h : CkS w A c H1 gi g8 c8 m w') {row : Option Nat} (hg : w'.grownBy w'' row) (hrow : ∀ k, row = some k → H1 ≤ k) : CkS w A c H1 gi g8 c8 m w'' := by
  have hlo := h.lo
  have hhi := h.hi
  have hle := h.le
  refine ⟨h.below.grown hg (by omega) (fun k hk => by have := hrow k hk; omega), Nat.le_trans hle hg.size, hlo, hhi, h.mb.grown hg (fun e => by have := hrow _ e; omega), h.ib.grown hg (fun e => by have := hrow _ e; omega), ?_⟩
  intro h0
  obtain ⟨b, off, e, hlt, hc⟩ := h.row h0
  refine ⟨b, off, e, hlt, fun j u hu => ?_⟩
  have hk : w''.heap[b]? = w'.heap[b]? := hg.block b (by omega) (fun e => by have := hrow b e.symm; omega)
  exact (World.cell?_of_block (a := ⟨b, off + j, none⟩) hk).trans (hc j u hu)
theorem CkS.later (h : CkS w A c H1 gi g8 c8 m w') (hb : Below w'.heap.size w' w'') : CkS w A c H1 gi g8 c8 m w'' :=
  h.grown (row := none) ⟨hb.os, hb.tape, hb.output, hb.size, fun k hk _ => hb.block k hk⟩ (by simp)
theorem CkS.rdRow (h : CkS w A c H1 gi g8 c8 m w') : Rd w' w'.heap.size (some ⟨g8, 0, none⟩) (svs (m.segs ++ mk2)) := h.row.more h.le
theorem CkS.rdIn (h : CkS w A c H1 gi g8 c8 m w') : Rd w' w'.heap.size (some ⟨g8, 0, none⟩) (svs m.segs) := by
  have := h.rdRow.segTake m.segs.length
  rwa [List.take_left] at this
theorem CkS.rd (h : CkS w A c H1 gi g8 c8 m w') {A' : Option Addr} {vs : List Value} (hr : Rd w w.heap.size A' vs) : Rd w' w'.heap.size A' vs := (hr.below h.below (Nat.le_refl _)).more h.below.size
theorem CkS.tab (h : CkS w A c H1 gi g8 c8 m w') (hT : Tab w) (h0 : 0 < w.heap.size) : Tab w' := hT.below h.below h0
theorem CkS.le0 (h : CkS w A c H1 gi g8 c8 m w') (h0 : 0 < w.heap.size) : 0 < w'.heap.size := Nat.lt_of_lt_of_le h0 h.below.size
end
theorem encM_small {m : Mf} (hw : m.wf) : (btL (encM m)).length ≤ 1048600 := by
  by_cases hk : chkM m = 0
  · rw [(encM_ok hw hk).1]
    exact (frame_small hw hk).2
  · have : encM m = .error (chkM m) := by unfold encM; rw [if_pos hk]
    rw [this]
    exact Nat.zero_le _

set_option maxRecDepth 100000 in
set_option maxHeartbeats 4000000 in
theorem checks_ok (m : Mf) (hw : m.wf) (A : Option Addr) (c : Nat) (w : World) (hr : Rd w w.heap.size A (svs m.segs)) (hl : m.segs.length ≤ 9223372036854775807) (hc : m.segs.length ≤ c) (hT : Tab w) (hT0 : 0 < w.heap.size) :
    Calls Tryd.prog 3 #[mval m A c] w fun e w' => e = .returned (.bool true) ∧ Below w.heap.size w w' := by
  obtain ⟨g, v, n, t, segs⟩ := m
  dsimp only at hr hl hc
  have hO0 : OS w w.heap.size ⟨g, v, n, t, segs⟩ A c (w.alloc (.cells #[.int .i64 g, .int .i64 v, .int .i64 n, .int .i64 t, .slice A segs.length c] 24)) := ⟨Blk.new _ _ _, (Below.refl _ _).alloc (Nat.le_refl _) _⟩
  have hRS := hr.segTake 300
  have hWF := hw.take 300
  have hsgl0 : (segs.take 300).length ≤ 300 := by simp; omega
  have HO0 := Hd.mk hO0
  have HR := Hd.mk hr
  have HRS := Hd.mk hRS
  have HWF := Hd.mk hWF
  have HT := Hd.mk hT
  have HCZ := Hd.mk chk_zero
  clear hRS hWF hO0 hT hr hw
  go_enter Tryd.func3, Tryd.ntmps3
  go_upto_if 33 with fail
  refine (small_ok _).mono ?_
  rintro e w1 ⟨A1, c1, rfl, ho1, hb1⟩
  have HO1 := Hd.mk (HO0.out.later hb1)
  have HR1 := Hd.mk (Rd.of_own ho1)
  clear ho1 hb1
  go_upto_if 33 with fail
  refine (check_ok ⟨1, 3, 2, 0, [⟨1, 0, 0⟩]⟩ A1 c1 w1 HR1.out (by decide)).mono ?_
  rw [chk_small]
  rintro e w2 ⟨rfl, hb2⟩
  have HO2 := Hd.mk (HO1.out.later hb2)
  clear hb2
  go_upto_if 33 with fail
  refine (check_ok ⟨0, 0, 0, 0, []⟩ none 0 w2 (Rd.nil _ _ _) (by decide)).mono ?_
  have hz := HCZ.out
  generalize chkM ⟨0, 0, 0, 0, []⟩ = ez at *
  rintro e w3 ⟨rfl, hb3⟩
  have HO3 := Hd.mk (HO2.out.later hb3)
  clear hb3
  go_upto_if 33 with fail
  refine (small_ok _).mono ?_
  rintro e w4 ⟨A4, c4, rfl, ho4, hb4⟩
  have HO4 := Hd.mk (HO3.out.later hb4)
  have HR4 := Hd.mk (Rd.of_own ho4)
  clear ho4 hb4
  go_upto_region 6 with fail
  obtain ⟨et, het⟩ : ∃ et, chkM ⟨1, 3, 0, -1, [⟨1, 0, 0⟩]⟩ = et := ⟨_, rfl⟩
  have hO5 := HO4.out.alloc (.cells #[.int .i64 1, .int .i64 3, .int .i64 0, .int .i64 (-1), .slice A4 1 c4] 24)
  have hB5 := Blk.new w4 24 #[.int .i64 1, .int .i64 3, .int .i64 0, .int .i64 (-1), .slice A4 1 c4]
  have hR5 := rd_alloc HR4.out (.cells #[.int .i64 1, .int .i64 3, .int .i64 0, .int .i64 (-1), .slice A4 1 c4] 24)
  have HET := Hd.mk het
  obtain ⟨gt, hgt⟩ : ∃ gt, w4.heap.size = gt := ⟨_, rfl⟩
  rw [hgt] at hB5 ⊢
  clear hgt het
  generalize w4.alloc (.cells #[.int .i64 1, .int .i64 3, .int .i64 0, .int .i64 (-1), .slice A4 1 c4] 24) = w5 at *
  have HW5 : Hd (TwoB w w.heap.size ⟨g, v, n, t, segs⟩ A c gt ⟨1, 3, 0, -1, [⟨1, 0, 0⟩]⟩ A4 c4 w5) := ⟨hO5, hB5, hR5⟩
  obtain ⟨t0, t1, t2, t3, t4, t5, f1, f2, f3, f4, f5⟩ := hB5.five
  clear hO5 hB5 hR5 HO4 HR4 HO3 HO2 HO1 HR1 HO0 f1 f2 f3 f4 f5
  have hne : (et != et) = false := by simp
  go_cut [33] (fun s33 wx => s33 = .bool false ∧ OS w w.heap.size ⟨g, v, n, t, segs⟩ A c wx)
  case first =>
    go_region_held3 (fun w' => w'.cell? ⟨gt, 0, none⟩ = some (.int .i64 1) ∧ w'.cell? ⟨gt, 1, none⟩ = some (.int .i64 3) ∧ w'.cell? ⟨gt, 2, none⟩ = some (.int .i64 0) ∧ w'.cell? ⟨gt, 3, none⟩ = some (.int .i64 (-1)) ∧ w'.cell? ⟨gt, 4, none⟩ = some (.slice A4 1 c4) ∧
        Hd (TwoB w w.heap.size ⟨g, v, n, t, segs⟩ A c gt ⟨1, 3, 0, -1, [⟨1, 0, 0⟩]⟩ A4 c4 w'))
      (first
        | (go_keep; exact ⟨TwoB.drew (Hd.out (by assumption))⟩)
        | exact ⟨t0x, t1x, t2x, t3x, t4x, HWx⟩)
      (first
        | (go_at_call 9; go_split_ands; refine (check_ok ⟨1, 3, 0, -1, [⟨1, 0, 0⟩]⟩ A4 c4 _ ?rd1 (by decide)).mono ?_; (case rd1 => exact TwoB.rd (Hd.out (by assumption))); rw [HET.out]; rintro e wa ⟨rfl, hba⟩; have HWx := Hd.mk (TwoB.later (Hd.out (by assumption)) hba); clear hba; obtain ⟨-, t0x, t1x, t2x, t3x, t4x, -⟩ := HWx.out.mb.five)
        | (go_at_call 11; go_split_ands; refine (refCheck_ok ⟨1, 3, 0, -1, [⟨1, 0, 0⟩]⟩ A4 c4 _ ?rd2 (by decide)).mono ?_; (case rd2 => exact TwoB.rd (Hd.out (by assumption))); rw [HET.out]; rintro e wb ⟨rfl, hbb⟩; have HWx := Hd.mk (TwoB.later (Hd.out (by assumption)) hbb); clear hbb; obtain ⟨-, t0x, t1x, t2x, t3x, t4x, -⟩ := HWx.out.mb.five))
    all_goals (go_wp2_with fail; go_meet; exact ⟨rfl, TwoB.os (Hd.out (by assumption))⟩)
  case rest =>
    obtain ⟨rfl, hO6⟩ := hcut
    have hCS := cutSegs_ok ⟨g, v, n, t, segs⟩ A c wc (hO6.rd HR.out) hl hc
    have HB6 := Hd.mk hO6.below
    obtain ⟨hz6, ma6, mb6, mc6, md6, me6, fa6, fb6, fc6, fd6, fe6⟩ := hO6.mb.five
    have HM6 := Hd.mk hO6.mb
    clear hO6 HW5 HR HET
    dsimp only at hCS
    generalize segs.take 300 = sg at *
    have hsgl : (Mf.segs ⟨g, v, n, t, sg⟩).length ≤ 1000000 := by show sg.length ≤ _; omega
    have HCS := Hd.mk hCS
    clear hCS
    go_upto_if 70 with fail
    refine HCS.out.mono ?_
    rintro e w7 ⟨rfl, hb7⟩
    have hO7 : OS w w.heap.size ⟨g, v, n, t, sg⟩ A c _ := ⟨(HM6.out.below hb7 hz6).five_set (.int .i64 g) (.int .i64 v) (.int .i64 n) (.int .i64 t) (.slice A sg.length c), below_five (HB6.out.trans (hb7.mono HB6.out.size)) (Nat.le_refl _) _ _ _ _ _⟩
    obtain ⟨hz7, ma7, mb7, mc7, md7, me7, fa7, fb7, fc7, fd7, fe7⟩ := (HM6.out.below hb7 hz6).five
    have HO7 := Hd.mk hO7
    clear hb7 hO7
    go_upto_if 70 with fail
    refine (laidSegs_ok ⟨g, v, n, t, sg⟩ A c _ (HO7.out.rd HRS.out) hsgl).mono ?_
    rintro e w8 ⟨g8, c8, rfl, ho8, hb8⟩
    have hO8 := HO7.out.later hb8
    have hcap8 := own_cap ho8 (by omega)
    have hg8 := (ho8.lt g8 rfl).2
    have HC8 : Hd (CkS w A c (w8.heap.size + 1) w8.heap.size g8 c8 ⟨g, v, n, t, sg⟩ (w8.alloc (.cells #[.int .i64 g, .int .i64 v, .int .i64 n, .int .i64 t, .slice (some ⟨g8, 0, none⟩) sg.length c8] 24))) :=
      ⟨hO8.below.alloc hO8.below.size _, by simp, by have := hO8.below.size; omega, by omega, hO8.mb.alloc _, Blk.new _ _ _, (rd_alloc (Rd.of_own ho8) _).more (by simp)⟩
    obtain ⟨ek, hek⟩ : ∃ ek, chkM ⟨g, v, n, t, sg⟩ = ek := ⟨_, rfl⟩
    obtain ⟨r, hr⟩ : ∃ r, encM ⟨g, v, n, t, sg⟩ = r := ⟨_, rfl⟩
    have hlb := encM_small HWF.out
    rw [hr] at hlb
    have hlb2 : (btL r).length ≤ 140737488355328 := by omega
    have hne1 : (ek != ek) = false := by simp
    have hne2 : (btE r != btE r) = false := by simp
    have HEK := Hd.mk hek
    have HER := Hd.mk hr
    clear ho8 hb8 hO8 hek hr
    go_upto_if 70 with fail
    refine (check_ok ⟨g, v, n, t, sg⟩ (some ⟨g8, 0, none⟩) c8 _ HC8.out.rdIn (by show sg.length ≤ _; omega)).mono ?_
    rw [HEK.out]
    rintro e w9 ⟨rfl, hb9⟩
    have HC9 := Hd.mk (HC8.out.later hb9)
    obtain ⟨-, i0, i1, i2, i3, i4, -⟩ := HC9.out.ib.five
    clear hb9
    go_upto_if 70 with fail
    refine (encode_ok ⟨g, v, n, t, sg⟩ HWF.out (some ⟨g8, 0, none⟩) c8 w9 HC9.out.rdIn (by show sg.length ≤ _; omega) (HC9.out.tab HT.out hT0) (HC9.out.le0 hT0)).mono ?_
    rw [HER.out]
    rintro e w10 hbt
    obtain ⟨Ab, cb, rfl, hob, hb10⟩ := bt_flat hbt
    have HC10 := Hd.mk (HC9.out.later hb10)
    have HB10 := Hd.mk (own_low hob HC9.out.le)
    obtain ⟨-, m0, m1, m2, m3, m4, -⟩ := HC10.out.mb.five
    clear hbt hob hb10
    go_upto_if 70 with fail
    refine (refEncode_ok ⟨g, v, n, t, sg⟩ HWF.out A c w10 (HC10.out.rd HRS.out) (by show sg.length ≤ _; omega)).mono ?_
    rw [HER.out]
    rintro e w11 hbt
    obtain ⟨Ac, cc, rfl, hoc, hb11⟩ := bt_flat hbt
    have hs11 := hb11.size
    have HC11 := Hd.mk (HC10.out.later hb11)
    have HB11 := Hd.mk (own_below HB10.out hb11)
    have HD11 := Hd.mk hoc
    obtain ⟨-, m0, m1, m2, m3, m4, -⟩ := HC11.out.mb.five
    clear hbt hoc hb11
    go_upto_if 70 with fail
    refine (refCheck_ok ⟨g, v, n, t, sg⟩ A c w11 (HC11.out.rd HRS.out) (by show sg.length ≤ _; omega)).mono ?_
    rw [HEK.out]
    rintro e w12 ⟨rfl, hb12⟩
    have hs12 := hb12.size
    have HC12 := Hd.mk (HC11.out.later hb12)
    have HB12 := Hd.mk (own_below HB11.out hb12)
    have HD12 := Hd.mk (own_below HD11.out hb12)
    clear hb12
    go_upto_if 70 with fail
    refine (sameBytes_ok Ab Ac cb cc _ _ (btL r) w12 (Rd.of_own HB12.out) (Rd.of_own HD12.out) hlb2).mono ?_
    rintro e w13 ⟨rfl, q13, rfl⟩
    have hb13 : Below w12.heap.size w12 (w12.drewN q13) := below_drewN (Below.refl _ _) _
    generalize w12.drewN q13 = w13 at *
    have hs13 := hb13.size
    have HC13 := Hd.mk (HC12.out.later hb13)
    have HB13 := Hd.mk (own_below HB12.out hb13)
    have HD13 := Hd.mk (own_below HD12.out hb13)
    clear hb13
    obtain ⟨-, i0, i1, i2, i3, i4, -⟩ := HC13.out.ib.five
    obtain ⟨-, m0, m1, m2, m3, m4, -⟩ := HC13.out.mb.five
    go_upto_if 70 with fail
    refine (intactSegs_ok ⟨g, v, n, t, sg⟩ A (some ⟨g8, 0, none⟩) c c8 w13 (HC13.out.rdRow) hcap8 (HC13.out.rd HRS.out) hsgl).mono ?_
    rintro e w14 ⟨rfl, hb14⟩
    have hs14 := hb14.size
    have hC14 := HC13.out.later hb14
    have hB14 := own_below HB13.out hb14
    have hD14 := own_below HD13.out hb14
    have hH10 : w8.heap.size + 1 ≤ w10.heap.size := HC10.out.le
    go_upto_if 70 with fail
    go_cut [4, 6, 8] (fun s4 s6 s8 wx => ∃ H1 H2 gi Ab cb Ac cc, s4 = .pointer (some ⟨gi, 0, none⟩) ∧ s6 = .slice Ab (btL r).length cb ∧ s8 = .slice Ac (btL r).length cc ∧ CkS w A c H1 gi g8 c8 ⟨g, v, n, t, sg⟩ wx ∧ wx.ownsRow H1 5 1 (.slice Ab (btL r).length cb) (btL r).length (bv (btL r)) ∧ Rd wx wx.heap.size Ac (bv (btL r)) ∧ (∀ k, (Value.slice Ab (btL r).length cb).ownBlock = some k → k < H2) ∧ (H2 ≤ wx.heap.size ∧ wx.ownsRow H2 5 1 (.slice Ac (btL r).length cc) (btL r).length (bv (btL r))))
    case first =>
      go_wp2_with fail
      go_meet
      exact ⟨_, w10.heap.size, _, Ab, cb, Ac, cc, rfl, rfl, rfl, hC14, hB14, Rd.of_own hD14, fun k hk => (HB10.out.lt k hk).2, by omega, hD14⟩
    case rest =>
      obtain ⟨H1, H2, gi, Ab, cb, Ac, cc, rfl, rfl, rfl, hC, hB, hRc, hk, hH2, hD⟩ := hcut
      clear HC8 HC9 HC10 HC11 HC12 HC13 HB10 HB11 HB12 HB13 HD11 HD12 HD13 hC14 hB14 hD14 HCZ hne1 HO7 HCS HM6 HB6 HEK
      have HRB := Hd.mk HER.out
      obtain ⟨lb, hlbd⟩ : ∃ lb, btL r = lb := ⟨_, rfl⟩
      obtain ⟨eb, hebd⟩ : ∃ eb, btE r = eb := ⟨_, rfl⟩
      rw [hlbd] at hB hRc hk hD hlb hlb2 ⊢
      rw [hebd] at hne2 ⊢
      have HLB := Hd.mk hlbd
      have HEB := Hd.mk hebd
      clear hlbd hebd
      have HC := Hd.mk hC
      have HB := Hd.mk hB
      have HRC := Hd.mk hRc
      have HK := Hd.mk hk
      have HD := Hd.mk hD
      clear hC hB hRc hk hD
      obtain ⟨W0, hW0⟩ : ∃ W0, wc = W0 := ⟨_, rfl⟩
      rw [hW0] at HC HB HRC HD hH2 ⊢
      clear hW0
      go_wp2_with fail
      go_loopw [10] (fun i wr => ∃ k : Nat, k ≤ lb.length ∧ i = .int .i64 k ∧ wr.ownsRow H1 5 1 (.slice Ab lb.length cb) lb.length (bv (List.replicate k 225 ++ lb.drop k)) ∧ W0.grownBy wr (Value.slice Ab lb.length cb).ownBlock) (fun i _ => lb.length - (intOf i).toNat)
      case atStart => exact ⟨0, by omega, rfl, HB.out, World.grownBy.refl _ _⟩
      case round =>
        obtain ⟨k, hk, rfl, ho, hg⟩ := hrel
        by_cases hlt : k < lb.length
        · obtain ⟨gb, cap, e, hb0, hblt⟩ := ho.form (by omega)
          cases e
          have hcell := (ho.cellAt k (by omega)).trans (bv_get (List.replicate k 225 ++ lb.drop k) k (by rw [fill_len _ _ _ hk]; exact hlt))
          generalize (List.replicate k 225 ++ lb.drop k)[k]'(by rw [fill_len _ _ _ hk]; exact hlt) = xx at hcell
          have hfz := ho.frozenAt k
          have HO := Hd.mk ho
          have HG := Hd.mk hg
          clear ho hg
          go_wp2_with fail
          go_roundw
          case rel =>
            refine ⟨k + 1, by omega, by go_num, ?_, grown_set HG.out _ _⟩
            have h := (HO.out.stored k (.int .u8 225)).1
            rw [show (Value.int .u8 225) = .int .u8 (((225 : UInt8).toNat : Nat) : Int) from rfl, fill_set lb k 225 hlt] at h
            exact h
          case measure => simp [intOf]; omega
        · obtain rfl : k = lb.length := by omega
          rw [fill_end] at ho
          have HO := Hd.mk ho
          have HG := Hd.mk hg
          clear ho hg
          have hbk : ∀ q, (Value.slice Ab lb.length cb).ownBlock = some q → H1 ≤ q := fun q hq => (HB.out.lt q hq).1
          have hszr : H1 ≤ wr.heap.size := Nat.le_trans HC.out.le HG.out.size
          have hone : ∀ u ∈ [Value.int .u8 225], u.oneCell' = true := by simp [Value.oneCell']
          have HONE := Hd.mk hone
          have HBK := Hd.mk hbk
          clear hone hbk
          go_upto_region 20 with (first
            | (have _t := HO15; at_builtin; refine app_marklit (mk := [.int .u8 225]) Tb (by decide) HONE.out (.tmp 83) (.tmp 84) rfl rfl _ H1 _ lb.length rfl HO15.out 3 _ rfl rfl rfl (by omega) hs15 (by omega) ?_; intro A3 c3 w16 ho16 hk16 hg16; have HO16 := Hd.mk ho16; have HK16 := Hd.mk hk16; have HG16 := Hd.mk (HG15.out.trans hg16); clear ho16 hk16 hg16)
            | (at_builtin; refine app_marklit (mk := [.int .u8 225]) Tb (by decide) HONE.out (.tmp 80) (.tmp 81) rfl rfl _ H1 _ lb.length rfl HO.out 1 _ rfl rfl rfl (by omega) hszr (by omega) ?_; intro A2 c2 w15 ho15 hk15 hg15; have HN15 := Hd.mk ho15; have HO15 := Hd.mk (hk15 _ _ _ HO.out); have hs15 := Nat.le_trans hszr hg15.size; have HG15 := Hd.mk (HG.out.trans hg15); clear ho15 hk15 hg15))
          have hO0 := HK16.out _ _ _ HO15.out
          have hO1 := HK16.out _ _ _ HN15.out
          have hO3 := HO16.out
          have hC16 := HC.out.grown HG16.out HBK.out
          have hD16 := own_off HD.out HG16.out HK.out
          clear HO15 HN15 HO16 HK16 HG16 HG15 HG HO HB HC HD HRC HK HBK
          have HC16 := Hd.mk hC16
          have HD16 := Hd.mk hD16
          have HM0 := Hd.mk hO0
          have HM1 := Hd.mk hO1
          have HM3 := Hd.mk hO3
          clear hC16 hD16 hO0 hO1 hO3
          obtain ⟨rs, hrs⟩ : ∃ rs, encM ⟨1, 3, 2, 0, [⟨1, 0, 0⟩]⟩ = rs := ⟨_, rfl⟩
          have hls := encM_small wf_small
          rw [hrs] at hls
          have hls2 : (btL rs).length ≤ 140737488355328 := by omega
          have HRSM := Hd.mk hrs
          clear hrs
          obtain ⟨ls, hlsd⟩ : ∃ ls, btL rs = ls := ⟨_, rfl⟩
          obtain ⟨es, hesd⟩ : ∃ es, btE rs = es := ⟨_, rfl⟩
          rw [hlsd] at hls hls2
          have hne3 : (es != es) = false := by simp
          have HLS := Hd.mk hlsd
          have HES := Hd.mk hesd
          clear hlsd hesd
          go_wp2_with fail
          refine (small_ok _).mono ?_
          rintro e w17 ⟨A17, c17, rfl, ho17, hb17⟩
          have HE17 := Hd.mk hb17
          have HR17 := Hd.mk (Rd.of_own ho17)
          have HC17 := Hd.mk (HC16.out.later hb17)
          clear ho17 hb17
          go_wp2_with fail
          refine (encode_ok ⟨1, 3, 2, 0, [⟨1, 0, 0⟩]⟩ wf_small A17 c17 w17 HR17.out (by decide) (HC17.out.tab HT.out hT0) (HC17.out.le0 hT0)).mono ?_
          rw [HRSM.out]
          rintro e w18 hbt
          obtain ⟨As, cs, rfl, hos, hb18⟩ := bt_flat hbt
          rw [HLS.out] at hos ⊢
          rw [HES.out]
          have hlow := HE17.out.size
          have HE18 := Hd.mk (HE17.out.trans (hb18.mono hlow))
          have HS18 := Hd.mk (own_low hos hlow)
          clear hbt hos hb18
          go_wp2_with fail
          refine (small_ok _).mono ?_
          rintro e w19 ⟨A19, c19, rfl, ho19, hb19⟩
          have HE19 := Hd.mk (HE18.out.trans (hb19.mono HE18.out.size))
          have HS19 := Hd.mk (own_below HS18.out hb19)
          have HR19 := Hd.mk (Rd.of_own ho19)
          clear ho19 hb19
          go_wp2_with fail
          refine (refEncode_ok ⟨1, 3, 2, 0, [⟨1, 0, 0⟩]⟩ wf_small A19 c19 w19 HR19.out (by decide)).mono ?_
          rw [HRSM.out]
          rintro e w20 hbt
          obtain ⟨Aw, cw, rfl, how, hb20⟩ := bt_flat hbt
          rw [HLS.out] at how ⊢
          rw [HES.out]
          have HE20 := Hd.mk (HE19.out.trans (hb20.mono HE19.out.size))
          have HS20 := Hd.mk (own_below HS19.out hb20)
          have HW20 := Hd.mk how
          clear hbt how hb20
          go_wp2_with fail
          refine (sameBytes_ok As Aw cs cw _ _ ls w20 (Rd.of_own HS20.out) (Rd.of_own HW20.out) hls2).mono ?_
          rintro e w21 ⟨rfl, q21, rfl⟩
          have HE21 := Hd.mk (below_drewN HE20.out q21)
          have HS21 := Hd.mk (own_drewN HS20.out q21)
          generalize w20.drewN q21 = W2 at *
          clear HE20 HE19 HE18 HE17 HS20 HS19 HS18 HW20 HR19 HR17 HC17
          go_wp2_with fail
          go_loopw [15] (fun i wr => ∃ k : Nat, k ≤ ls.length ∧ i = .int .i64 k ∧ wr.ownsRow w16.heap.size 5 1 (.slice As ls.length cs) ls.length (bv (List.replicate k 226 ++ ls.drop k)) ∧ W2.grownBy wr (Value.slice As ls.length cs).ownBlock) (fun i _ => ls.length - (intOf i).toNat)
          case atStart => exact ⟨0, by omega, rfl, HS21.out, World.grownBy.refl _ _⟩
          case round =>
            obtain ⟨k, hk, rfl, ho, hg⟩ := hrel
            by_cases hlt : k < ls.length
            · obtain ⟨gb, cap, e, hb0, hblt⟩ := ho.form (by omega)
              cases e
              have hcell := (ho.cellAt k (by omega)).trans (bv_get (List.replicate k 226 ++ ls.drop k) k (by rw [fill_len _ _ _ hk]; exact hlt))
              generalize (List.replicate k 226 ++ ls.drop k)[k]'(by rw [fill_len _ _ _ hk]; exact hlt) = xx at hcell
              have hfz := ho.frozenAt k
              have HO := Hd.mk ho
              have HG := Hd.mk hg
              clear ho hg
              go_wp2_with fail
              go_roundw
              case rel =>
                refine ⟨k + 1, by omega, by go_num, ?_, grown_set HG.out _ _⟩
                have h := (HO.out.stored k (.int .u8 226)).1
                rw [show (Value.int .u8 226) = .int .u8 (((226 : UInt8).toNat : Nat) : Int) from rfl, fill_set ls k 226 hlt] at h
                exact h
              case measure => simp [intOf]; omega
            · obtain rfl : k = ls.length := by omega
              rw [fill_end] at ho
              have HO := Hd.mk ho
              have hE := HE21.out.grown hg HE21.out.size (fun q hq => (HS21.out.lt q hq).1)
              have HE := Hd.mk hE
              have hC := HC16.out.later hE
              have HC := Hd.mk hC
              obtain ⟨-, i0, i1, i2, i3, i4, -⟩ := hC.ib.five
              clear ho hg hE hC HE21 HS21
              go_wp2_with fail
              refine (encode_ok ⟨g, v, n, t, sg⟩ HWF.out (some ⟨g8, 0, none⟩) c8 wr HC.out.rdIn (by show sg.length ≤ _; omega) (HC.out.tab HT.out hT0) (HC.out.le0 hT0)).mono ?_
              rw [HER.out]
              rintro e w22 hbt
              obtain ⟨Ad, cd, rfl, hod, hb22⟩ := bt_flat hbt
              rw [HLB.out] at hod ⊢
              rw [HEB.out]
              have HE22 := Hd.mk (HE.out.trans (hb22.mono HE.out.size))
              have HS22 := Hd.mk (own_below HO.out hb22)
              have HD22 := Hd.mk hod
              clear hbt hod hb22
              go_wp2_with fail
              refine (sameBytes_ok Ad Ac cd cc _ _ lb w22 (Rd.of_own HD22.out) (Rd.of_own (own_below HD16.out HE22.out)) hlb2).mono ?_
              rintro e w23 ⟨rfl, q23, rfl⟩
              have HE23 := Hd.mk (below_drewN HE22.out q23)
              have HS23 := Hd.mk (own_drewN HS22.out q23)
              generalize w22.drewN q23 = W3 at *
              go_wp2_with fail
              refine (all_rep lb.length _ 225 225 rfl Ab cb W3 (own_below HM0.out HE23.out) hlb2).mono ?_
              rintro e w24 ⟨rfl, rfl⟩
              go_wp2_with fail
              refine (all_rep (lb.length + 1) _ 225 225 rfl A2 c2 W3 (own_below HM1.out HE23.out) (by omega)).mono ?_
              rintro e w24 ⟨rfl, rfl⟩
              go_wp2_with fail
              refine (all_rep (lb.length + 3) _ 225 225 rfl A3 c3 W3 (own_below HM3.out HE23.out) (by omega)).mono ?_
              rintro e w24 ⟨rfl, rfl⟩
              go_wp2_with fail
              refine (all_rep ls.length _ 226 226 rfl As cs W3 HS23.out hls2).mono ?_
              rintro e w24 ⟨rfl, rfl⟩
              go_wp2_with fail
              go_ret
              exact ⟨rfl, (HC16.out.later HE23.out).below⟩
end Go.Proofs.YtamodllgeabpoaaDoor
