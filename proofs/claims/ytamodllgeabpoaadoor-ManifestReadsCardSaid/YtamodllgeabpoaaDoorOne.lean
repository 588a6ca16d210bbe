/- Contract: ManifestOne answers true, whatever it is handed. -/
import Derived.Test.YtamodllgeabpoaaDoorLawA
import Derived.Deep.DeepCutAuto
namespace Go.Proofs.YtamodllgeabpoaaDoor
open Go.RowKit

theorem Blk.five_set {w : World} {g : Nat} {t : TypeId} {a b c d e : Value} (h : Blk w g t #[a, b, c, d, e]) (a' b' c' d' e' : Value) :
    Blk (((((w.setCell ⟨g, 0, none⟩ a').setCell ⟨g, 1, none⟩ b').setCell ⟨g, 2, none⟩ c').setCell ⟨g, 3, none⟩ d').setCell ⟨g, 4, none⟩ e') g t #[a', b', c', d', e'] :=
  ((((h.set_ 0 a').set_ 1 b').set_ 2 c').set_ 3 d').set_ 4 e'
/-- a manifest in a box of the call's own, the memory that was there -/
structure OS (w : World) (g : Nat) (m : Mf) (A : Option Addr) (c : Nat) (w' : World) : Prop where
  mb : Blk w' g 24 #[.int .i64 m.gen, .int .i64 m.v, .int .i64 m.next, .int .i64 m.top, .slice A m.segs.length c]
  below : Below w.heap.size w w'
section
variable {w w' w'' : World} {g : Nat} {m : Mf} {A : Option Addr} {c : Nat}
theorem OS.later (h : OS w g m A c w') (hk : Below w'.heap.size w' w'') : OS w g m A c w'' := ⟨h.mb.below hk h.mb.lt, h.below.trans (hk.mono h.below.size)⟩
theorem OS.alloc (h : OS w g m A c w') (o : Obj) : OS w g m A c (w'.alloc o) := h.later ((Below.refl _ _).alloc (Nat.le_refl _) _)
theorem OS.rd (h : OS w g m A c w') {A' : Option Addr} {vs : List Value} (hr : Rd w w.heap.size A' vs) : Rd w' w'.heap.size A' vs := (hr.below h.below (Nat.le_refl _)).more h.below.size
theorem OS.tab (h : OS w g m A c w') (hT : Tab w) (h0 : 0 < w.heap.size) : Tab w' := hT.below h.below h0
theorem OS.le (h : OS w g m A c w') (h0 : 0 < w.heap.size) : 0 < w'.heap.size := Nat.lt_of_lt_of_le h0 h.below.size
end
theorem rdSegs_err {l : List UInt8} (k : Nat) : ∀ {base at_ : Nat} {acc : List Sg} {e : Int}, rdSegs l k base at_ acc = .error e → e ≠ 0 := by
  induction k with
  | zero => intro base at_ acc e h; cases h
  | succ k ih =>
    intro base at_ acc e h
    rw [rdSegs] at h
    cases hu : rdN l at_ base with
    | error e' => rw [hu] at h; injection h with h; subst h; exact rdN_err hu
    | ok x =>
      obtain ⟨n, q⟩ := x
      rw [hu] at h
      simp only [Except.bind] at h
      cases hu2 : rdN l q 0 with
      | error e' => rw [hu2] at h; injection h with h; subst h; exact rdN_err hu2
      | ok x2 =>
        obtain ⟨s, q2⟩ := x2
        rw [hu2] at h
        simp only [] at h
        cases hu3 : rdN l q2 0 with
        | error e' => rw [hu3] at h; injection h with h; subst h; exact rdN_err hu3
        | ok x3 =>
          obtain ⟨d, q3⟩ := x3
          rw [hu3] at h
          simp only [] at h
          exact ih h
theorem decM_err {b : List UInt8} {e : Int} (h : decM b = .error e) : e ≠ 0 := by
  unfold decM at h
  cases hf : rdFrame b 0 with
  | error e' => rw [hf] at h; injection h with h; subst h; exact rdFrame_err hf
  | ok x =>
    obtain ⟨body, q⟩ := x
    rw [hf] at h
    simp only [Except.bind] at h
    split at h
    · injection h; omega
    unfold decBody at h
    cases hh : rdHeads body 5 1 [] with
    | error e' => rw [hh] at h; injection h with h; subst h; exact rdHeads_err 5 hh
    | ok x =>
      obtain ⟨hs, p5⟩ := x
      rw [hh] at h
      simp only [Except.bind] at h
      cases hs : rdSegs body (hs.getD 4 0) 0 p5 [] with
      | error e' => rw [hs] at h; injection h with h; subst h; exact rdSegs_err _ hs
      | ok x =>
        obtain ⟨segs, p⟩ := x
        rw [hs] at h
        simp only [] at h
        split at h
        · injection h; omega
        · split at h
          · rename_i hz; injection h with h; subst h; exact hz
          · cases h

theorem chk_small : chkM ⟨1, 3, 2, 0, [⟨1, 0, 0⟩]⟩ = 0 := by decide
theorem rd_alloc {w : World} {A : Option Addr} {vs : List Value} (h : Rd w w.heap.size A vs) (o : Obj) : Rd (w.alloc o) (w.alloc o).heap.size A vs :=
  (h.below ((Below.refl _ _).alloc (Nat.le_refl _) o) (Nat.le_refl _)).more ((Below.refl w.heap.size w).alloc (Nat.le_refl _) o).size
theorem own_cap {w : World} {base n c size : Nat} {e : TypeId} {A : Option Addr} {xs : List Value} (h : w.ownsRow base e size (.slice A n c) n xs) (hn : 0 < n) : n ≤ c := by
  rcases h.2 with ⟨_, h0⟩ | ⟨g, cap, cur, hv, _, _, hnc, _⟩
  · omega
  · injection hv with _ _ h3
    omega
theorem Mf.wf.take {g v n t : Int} {segs : List Sg} (h : Mf.wf ⟨g, v, n, t, segs⟩) (k : Nat) : Mf.wf ⟨g, v, n, t, segs.take k⟩ := ⟨h.gen, h.v, h.next, h.top, fun s hs => h.segs s (List.mem_of_mem_take hs)⟩

theorem Rd.bvTake {w : World} {B : Nat} {A : Option Addr} {l : List UInt8} (h : Rd w B A (bv l)) (b1 : List UInt8) (hb : ∃ n, b1 = l.take n) : Rd w B A (bv b1) := by
  obtain ⟨n, rfl⟩ := hb
  intro h0
  have hl : 0 < (bv l).length := by rw [bv_len] at h0 ⊢; simp at h0; omega
  obtain ⟨b, off, e, hlt, hc⟩ := h hl
  refine ⟨b, off, e, hlt, fun j u hu => hc j u ?_⟩
  have e2 : bv l = bv (l.take n) ++ bv (l.drop n) := by rw [← bv_app, List.take_append_drop]
  rw [e2, List.getElem?_append_left (List.getElem?_eq_some_iff.1 hu).1]
  exact hu
theorem frame_small {m : Mf} (hw : m.wf) (hk : chkM m = 0) : 0 < (frameB (encBody m)).length ∧ (frameB (encBody m)).length ≤ 1048600 := by
  obtain ⟨h0, h1⟩ : 0 < (encBody m).length ∧ (encBody m).length ≤ 1048576 := by rcases encBody_len hk with h | h; exact h; exact absurd hw h
  have := leb_ten (n := (encBody m).length) ⟨by omega⟩
  rw [frameB_len]
  omega

set_option maxRecDepth 100000 in
set_option maxHeartbeats 2000000 in
theorem one_ok (m : Mf) (hw : m.wf) (A A' : Option Addr) (c c' : Nat) (b : List UInt8) (w : World) (hr : Rd w w.heap.size A (svs m.segs)) (hl : m.segs.length ≤ 9223372036854775807) (hc : m.segs.length ≤ c) (hrb : Rd w w.heap.size A' (bv b)) (hbc : b.length ≤ c') (hbl : b.length ≤ 9223372036854775807) (hT : Tab w) (hT0 : 0 < w.heap.size) :
    Calls Tryd.prog 5 #[mval m A c, .slice A' b.length c'] w fun e w' => e = .returned (.bool true) ∧ Below w.heap.size w w' := by
  obtain ⟨g, v, n, t, segs⟩ := m
  dsimp only at hr hl hc
  have hb0 : Below w.heap.size w (w.alloc (.cells #[.int .i64 g, .int .i64 v, .int .i64 n, .int .i64 t, .slice A segs.length c] 24)) := (Below.refl _ _).alloc (Nat.le_refl _) _
  have hCS := cutSegs_ok ⟨g, v, n, t, segs⟩ A c (w.alloc (.cells #[.int .i64 g, .int .i64 v, .int .i64 n, .int .i64 t, .slice A segs.length c] 24)) ((hr.below hb0 (Nat.le_refl _)).more hb0.size) hl hc
  have hRS := hr.segTake 300
  have hWF := hw.take 300
  have hsgl0 : (segs.take 300).length ≤ 300 := by simp; omega
  dsimp only at hCS
  generalize segs.take 300 = sg at *
  have hsgl : (Mf.segs ⟨g, v, n, t, sg⟩).length ≤ 1000000000000 := by show sg.length ≤ _; omega
  have HCS := Hd.mk hCS
  have HRS := Hd.mk hRS
  have HWF := Hd.mk hWF
  have HB0 := Hd.mk hb0
  have HT := Hd.mk hT
  clear hCS hRS hWF hb0 hT hr hw
  obtain ⟨b1, hb1⟩ : ∃ b1, b1 = b.take 65536 := ⟨_, rfl⟩
  have hb1l0 : b1.length ≤ 65536 := by rw [hb1]; simp; omega
  have hb1l : b1.length ≤ 140737488355328 := by omega
  have hb1c : b1.length ≤ c' := by rw [hb1]; simp; omega
  have hrb1 : Rd w w.heap.size A' (bv b1) := hrb.bvTake b1 ⟨_, hb1⟩
  have HRB := Hd.mk hrb1
  have hbig : (b1 = b ∧ ¬ 65536 < b.length) ∨ (b1.length = 65536 ∧ 65536 < b.length) := by
    by_cases h : 65536 < b.length
    · exact .inr ⟨by rw [hb1]; simp; omega, h⟩
    · exact .inl ⟨by rw [hb1, List.take_of_length_le (by omega)], h⟩
  have HBIG := Hd.mk hbig
  have hA65 : 65536 < b.length → ∃ q off, A' = some ⟨q, off, none⟩ := fun h => by
    obtain ⟨q, off, e, _, _⟩ := hrb (by rw [bv_len]; omega)
    exact ⟨q, off, e⟩
  have HA65 := Hd.mk hA65
  clear hb1 hrb hrb1 hbig hA65
  go_enter Tryd.func5, Tryd.ntmps5
  go_upto_if 14 with (go_at_call 12; refine HCS.out.mono ?_; rintro e w1 ⟨rfl, hb1⟩; have hbx := (Blk.new w 24 #[.int .i64 g, .int .i64 v, .int .i64 n, .int .i64 t, .slice A segs.length c]).below hb1 (by simp); have HO1 : Hd (OS w w.heap.size ⟨g, v, n, t, sg⟩ A c _) := ⟨hbx.five_set (.int .i64 g) (.int .i64 v) (.int .i64 n) (.int .i64 t) (.slice A sg.length c), below_five (HB0.out.trans (hb1.mono HB0.out.size)) (Nat.le_refl _) _ _ _ _ _⟩; obtain ⟨hz1, ma1, mb1, mc1, md1, me1, fa1, fb1, fc1, fd1, fe1⟩ := hbx.five; clear hbx hb1)
  go_cut [1] (fun s1 wx => s1 = .slice A' b1.length c' ∧ OS w w.heap.size ⟨g, v, n, t, sg⟩ A c wx)
  case first =>
    by_cases hbg : 65536 < b.length
    · obtain ⟨q, off, rfl⟩ := HA65.out hbg
      have HL : Hd (b1.length = 65536) := ⟨by rcases HBIG.out with ⟨_, h⟩ | ⟨h, _⟩; exact absurd hbg h; exact h⟩
      go_wp2_with fail
      go_meet
      exact ⟨by rw [HL.out], HO1.out⟩
    · have HL : Hd (b1 = b) := ⟨by rcases HBIG.out with ⟨h, _⟩ | ⟨_, h⟩; exact h; exact absurd h hbg⟩
      go_wp2_with fail
      go_meet
      exact ⟨by rw [HL.out], HO1.out⟩
  case rest =>
    obtain ⟨rfl, hO1⟩ := hcut
    have HO1 := Hd.mk hO1
    clear hO1 HA65 HBIG HB0
    by_cases hk : chkM ⟨g, v, n, t, sg⟩ = 0
    · obtain ⟨henc, hdec⟩ := encM_ok HWF.out hk
      obtain ⟨hf0, hf1⟩ := frame_small HWF.out hk
      have hfl : (frameB (encBody ⟨g, v, n, t, sg⟩)).length ≤ 140737488355328 := by omega
      have HENC := Hd.mk henc
      have HDEC := Hd.mk hdec
      have HCHK := Hd.mk hk
      clear henc hdec hk
      generalize frameB (encBody ⟨g, v, n, t, sg⟩) = fr at *
      go_upto_if 30 with (first
          | (go_at_call 9; refine (check_ok ⟨g, v, n, t, sg⟩ A c w4 (HO4.out.rd HRS.out) hsgl).mono ?_; rw [HCHK.out]; rintro e w5 ⟨rfl, hb5⟩; have HO5 := Hd.mk (HO4.out.later hb5); have HRE5 := Hd.mk ((HRE4.out.below hb5 (Nat.le_refl _)).more hb5.size); clear hb5; obtain ⟨hz5, ma5, mb5, mc5, md5, me5, fa5, fb5, fc5, fd5, fe5⟩ := HO5.out.mb.five)
          | (go_at_call 14; refine (encode_ok ⟨g, v, n, t, sg⟩ HWF.out A c w3 (HO3.out.rd HRS.out) hsgl (HO3.out.tab HT.out hT0) (HO3.out.le hT0)).mono ?_; rintro e w4 ⟨-, hk, hb4⟩; obtain ⟨Ae, ce, rfl, hoe⟩ := hk _ HENC.out; clear hk; have HO4 := Hd.mk (HO3.out.later hb4); have hce := own_cap hoe hf0; have HRE4 := Hd.mk (Rd.of_own hoe); clear hoe hb4; obtain ⟨hz4, ma4, mb4, mc4, md4, me4, fa4, fb4, fc4, fd4, fe4⟩ := HO4.out.mb.five)
          | (go_at_call 9; refine (check_ok ⟨1, 3, 2, 0, [⟨1, 0, 0⟩]⟩ As cs w2 HRS2.out (by decide)).mono ?_; rw [chk_small]; rintro e w3 ⟨rfl, hb3⟩; have HO3 := Hd.mk (HO2.out.later hb3); clear hb3; obtain ⟨hz3, ma3, mb3, mc3, md3, me3, fa3, fb3, fc3, fd3, fe3⟩ := HO3.out.mb.five)
          | (go_at_call 10; refine (small_ok _).mono ?_; rintro e w2 ⟨As, cs, rfl, hos, hb2⟩; have HO2 := Hd.mk (HO1.out.later hb2); have HRS2 : Hd (Rd w2 w2.heap.size As (svs [⟨1, 0, 0⟩])) := ⟨Rd.of_own hos⟩; clear hos hb2))
      go_cut [4] (fun _ wx => OS w w.heap.size ⟨g, v, n, t, sg⟩ A c wx)
      case first =>
        go_wp2_with (first
          | (go_at_call 20; refine (same_law ⟨g, v, n, t, sg⟩ Ac A cc c _ HRC6.out (HO6.out.rd HRS.out) hsgl).mono ?_; rintro e w7 ⟨rfl, hb7⟩; have HO7 := Hd.mk (HO6.out.later hb7); clear hb7)
          | (go_at_call 19; refine (decode_ok Ae ce fr _ HRE5.out hce hfl (HO5.out.tab HT.out hT0) (HO5.out.le hT0)).mono ?_; rintro e w6 ⟨-, hk, hb6⟩; obtain ⟨Ac, cc, rfl, hoc⟩ := hk _ HDEC.out; clear hk; have HO6 := Hd.mk ((HO5.out.later hb6).alloc (.cells #[.int .i64 g, .int .i64 v, .int .i64 n, .int .i64 t, .slice Ac sg.length cc] 24)); have HRC6 := Hd.mk (rd_alloc (Rd.of_own hoc) (.cells #[.int .i64 g, .int .i64 v, .int .i64 n, .int .i64 t, .slice Ac sg.length cc] 24)); clear hoc hb6; obtain ⟨hz6, ma6, mb6, mc6, md6, me6, fa6, fb6, fc6, fd6, fe6⟩ := HO6.out.mb.five))
        go_meet
        exact HO7.out
      case rest =>
        have HOR := Hd.mk hcut
        clear hcut
        cases hd2 : decM b1 with
        | error er =>
          have HD2 := Hd.mk hd2
          have he2 : (er != 0) = true := bne_iff_ne.2 (decM_err hd2)
          clear hd2
          go_wp2_with (first
            | (have h9s := HO9; go_at_call 20; refine (same_law ⟨0, 0, 0, 0, []⟩ none none 0 0 _ (Rd.nil _ _ _) (Rd.nil _ _ _) (by decide)).mono ?_; rintro e w10 ⟨rfl, hb10⟩; have HO10 := Hd.mk (HO9.out.later hb10); clear hb10)
            | (go_at_call 19; refine (decode_ok A' c' b1 _ (HOR.out.rd HRB.out) hb1c hb1l (HOR.out.tab HT.out hT0) (HOR.out.le hT0)).mono ?_; rintro e w9 ⟨hk, -, hb9⟩; cases (hk _ HD2.out); clear hk; have HO9 := Hd.mk ((HOR.out.later hb9).alloc (.cells #[.int .i64 0, .int .i64 0, .int .i64 0, .int .i64 0, .slice none 0 0] 24)); clear hb9))
          go_ret
          exact ⟨rfl, HO10.out.below⟩
        | ok m2 =>
          have HD2 := Hd.mk hd2
          obtain ⟨hw2, hk2, he2⟩ := decM_back hd2
          have hm2l : m2.segs.length ≤ 1000000000000 := by have := (chkM_ok hk2).2.2.2.2.2.2.2.2.1; omega
          have HW2 := Hd.mk hw2
          have HE2 := Hd.mk he2
          clear hd2 hw2 hk2 he2
          go_wp2_with (first
            | (go_at_call 16; refine (sameBytes_ok A' Af c' cf w.heap.size _ b1 _ (HRB.out.below HO10.out.below (Nat.le_refl _)) (Rd.of_own HF10.out) hb1l).mono ?_; rintro e w11 ⟨rfl, q11, rfl⟩)
            | (go_at_call 14; refine (encode_ok m2 HW2.out Ad cd _ HRD9.out hm2l HT9.out HL9.out).mono ?_; rintro e w10 ⟨-, hk, hb10⟩; obtain ⟨Af, cf, rfl, hof⟩ := hk _ HE2.out; clear hk; have HF10 := Hd.mk hof; have HO10 := Hd.mk (HO9.out.later hb10); clear hof hb10)
            | (go_at_call 19; refine (decode_ok A' c' b1 _ (HOR.out.rd HRB.out) hb1c hb1l (HOR.out.tab HT.out hT0) (HOR.out.le hT0)).mono ?_; rintro e w9 ⟨-, hk, hb9⟩; obtain ⟨Ad, cd, rfl, hod⟩ := hk _ HD2.out; clear hk; have HO9 := Hd.mk ((HOR.out.later hb9).alloc (.cells #[.int .i64 m2.gen, .int .i64 m2.v, .int .i64 m2.next, .int .i64 m2.top, .slice Ad m2.segs.length cd] 24)); have HRD9 := Hd.mk (rd_alloc (Rd.of_own hod) (.cells #[.int .i64 m2.gen, .int .i64 m2.v, .int .i64 m2.next, .int .i64 m2.top, .slice Ad m2.segs.length cd] 24)); have HT9 := Hd.mk (HO9.out.tab HT.out hT0); have HL9 := Hd.mk (HO9.out.le hT0); clear hod hb9))
          go_ret
          exact ⟨rfl, below_drewN HO10.out.below _⟩
    · have hen : (chkM ⟨g, v, n, t, sg⟩ == 0) = false := beq_eq_false_iff_ne.2 hk
      have henc : encM ⟨g, v, n, t, sg⟩ = .error (chkM ⟨g, v, n, t, sg⟩) := by unfold encM; rw [if_pos hk]
      obtain ⟨ec, hec⟩ : ∃ ec, chkM ⟨g, v, n, t, sg⟩ = ec := ⟨_, rfl⟩
      rw [hec] at henc hen
      have hnn : (ec != ec) = false := by simp
      have HENC := Hd.mk henc
      have HCHK := Hd.mk hec
      clear henc hk hec
      go_upto_if 30 with (first
          | (go_at_call 9; refine (check_ok ⟨g, v, n, t, sg⟩ A c w4 (HO4.out.rd HRS.out) hsgl).mono ?_; rw [HCHK.out]; rintro e w5 ⟨rfl, hb5⟩; have HO5 := Hd.mk (HO4.out.later hb5); clear hb5; obtain ⟨hz5, ma5, mb5, mc5, md5, me5, fa5, fb5, fc5, fd5, fe5⟩ := HO5.out.mb.five)
          | (go_at_call 14; refine (encode_ok ⟨g, v, n, t, sg⟩ HWF.out A c w3 (HO3.out.rd HRS.out) hsgl (HO3.out.tab HT.out hT0) (HO3.out.le hT0)).mono ?_; rintro e w4 ⟨hk, -, hb4⟩; cases (hk _ HENC.out); clear hk; have HO4 := Hd.mk (HO3.out.later hb4); clear hb4; obtain ⟨hz4, ma4, mb4, mc4, md4, me4, fa4, fb4, fc4, fd4, fe4⟩ := HO4.out.mb.five)
          | (go_at_call 9; refine (check_ok ⟨1, 3, 2, 0, [⟨1, 0, 0⟩]⟩ As cs w2 HRS2.out (by decide)).mono ?_; rw [chk_small]; rintro e w3 ⟨rfl, hb3⟩; have HO3 := Hd.mk (HO2.out.later hb3); clear hb3; obtain ⟨hz3, ma3, mb3, mc3, md3, me3, fa3, fb3, fc3, fd3, fe3⟩ := HO3.out.mb.five)
          | (go_at_call 10; refine (small_ok _).mono ?_; rintro e w2 ⟨As, cs, rfl, hos, hb2⟩; have HO2 := Hd.mk (HO1.out.later hb2); have HRS2 : Hd (Rd w2 w2.heap.size As (svs [⟨1, 0, 0⟩])) := ⟨Rd.of_own hos⟩; clear hos hb2))
      cases hd2 : decM b1 with
      | error er =>
        have HD2 := Hd.mk hd2
        have he2 : (er != 0) = true := bne_iff_ne.2 (decM_err hd2)
        clear hd2
        go_wp2_with (first
          | (have h9s := HO9; go_at_call 20; refine (same_law ⟨0, 0, 0, 0, []⟩ none none 0 0 _ (Rd.nil _ _ _) (Rd.nil _ _ _) (by decide)).mono ?_; rintro e w10 ⟨rfl, hb10⟩; have HO10 := Hd.mk (HO9.out.later hb10); clear hb10)
          | (go_at_call 19; refine (decode_ok A' c' b1 _ (HO5.out.rd HRB.out) hb1c hb1l (HO5.out.tab HT.out hT0) (HO5.out.le hT0)).mono ?_; rintro e w9 ⟨hk, -, hb9⟩; cases (hk _ HD2.out); clear hk; have HO9 := Hd.mk ((HO5.out.later hb9).alloc (.cells #[.int .i64 0, .int .i64 0, .int .i64 0, .int .i64 0, .slice none 0 0] 24)); clear hb9))
        go_ret
        exact ⟨rfl, HO10.out.below⟩
      | ok m2 =>
        have HD2 := Hd.mk hd2
        obtain ⟨hw2, hk2, he2⟩ := decM_back hd2
        have hm2l : m2.segs.length ≤ 1000000000000 := by have := (chkM_ok hk2).2.2.2.2.2.2.2.2.1; omega
        have HW2 := Hd.mk hw2
        have HE2 := Hd.mk he2
        clear hd2 hw2 hk2 he2
        go_wp2_with (first
          | (go_at_call 16; refine (sameBytes_ok A' Af c' cf w.heap.size _ b1 _ (HRB.out.below HO10.out.below (Nat.le_refl _)) (Rd.of_own HF10.out) hb1l).mono ?_; rintro e w11 ⟨rfl, q11, rfl⟩)
          | (go_at_call 14; refine (encode_ok m2 HW2.out Ad cd _ HRD9.out hm2l HT9.out HL9.out).mono ?_; rintro e w10 ⟨-, hk, hb10⟩; obtain ⟨Af, cf, rfl, hof⟩ := hk _ HE2.out; clear hk; have HF10 := Hd.mk hof; have HO10 := Hd.mk (HO9.out.later hb10); clear hof hb10)
          | (go_at_call 19; refine (decode_ok A' c' b1 _ (HO5.out.rd HRB.out) hb1c hb1l (HO5.out.tab HT.out hT0) (HO5.out.le hT0)).mono ?_; rintro e w9 ⟨-, hk, hb9⟩; obtain ⟨Ad, cd, rfl, hod⟩ := hk _ HD2.out; clear hk; have HO9 := Hd.mk ((HO5.out.later hb9).alloc (.cells #[.int .i64 m2.gen, .int .i64 m2.v, .int .i64 m2.next, .int .i64 m2.top, .slice Ad m2.segs.length cd] 24)); have HRD9 := Hd.mk (rd_alloc (Rd.of_own hod) (.cells #[.int .i64 m2.gen, .int .i64 m2.v, .int .i64 m2.next, .int .i64 m2.top, .slice Ad m2.segs.length cd] 24)); have HT9 := Hd.mk (HO9.out.tab HT.out hT0); have HL9 := Hd.mk (HO9.out.le hT0); clear hod hb9))
        go_ret
        exact ⟨rfl, below_drewN HO10.out.below _⟩
end Go.Proofs.YtamodllgeabpoaaDoor
