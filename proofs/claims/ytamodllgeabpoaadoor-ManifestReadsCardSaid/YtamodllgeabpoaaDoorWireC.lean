/- Contracts of package wire's functions: reading a frame, laying one. -/
import Derived.Test.YtamodllgeabpoaaDoorWireB
import Derived.Deep.QuietTactic
import Derived.BigQuiet
namespace Go.Proofs.YtamodllgeabpoaaDoor
open Go.RowKit

/-- what reading a frame hands back -/
def FrPost (w : World) (r : Except Int (List UInt8 × Nat)) (e : Ending) (w' : World) : Prop :=
  (∀ er, r = .error er → e = .returned (.tuple #[.slice none 0 0, .int .i64 0, .int .i64 er])) ∧
  (∀ body q, r = .ok (body, q) → ∃ A c, e = .returned (.tuple #[.slice A body.length c, .int .i64 (q : Int), .int .i64 0]) ∧ FB 5 w.heap.size w' A c body) ∧ Below w.heap.size w w'
theorem rdBounds_err {l : List UInt8} {at_ : Nat} {e : Int} (h : rdBounds l at_ = .error e) : e ≠ 0 := by
  unfold rdBounds at h
  cases hu : readU l at_ with
  | error e' => rw [hu] at h; injection h with h; subst h; exact readU_err hu
  | ok x =>
    rw [hu] at h
    dsimp only at h
    repeat' split at h
    all_goals first | (injection h; omega) | (cases h)
theorem getD_get (l : List UInt8) (k : Nat) (h : k < l.length) : l.getD k 0 = l[k] := by rw [List.getD_eq_getElem?_getD, List.getElem?_eq_getElem h]; rfl

theorem rdFrame_of {l : List UInt8} {at_ f t : Nat} (h : rdBounds l at_ = .ok (f, t)) : rdFrame l at_ = if le32 l t ≠ crc ((l.drop at_).take (t - at_)) then .error 16 else .ok ((l.drop f).take (t - f), t + 5) := by unfold rdFrame; rw [h]
theorem fr_ok {w w' : World} {r : Except Int (List UInt8 × Nat)} {body : List UInt8} {q n : Nat} {x : Int} {A : Option Addr} {c : Nat} (h : r = .ok (body, q)) (hn : n = body.length) (hx : x = (q : Int)) (ho : FB 5 w.heap.size w' A c body) (hb : Below w.heap.size w w') :
    FrPost w r (.returned (.tuple #[.slice A n c, .int .i64 x, .int .i64 0])) w' := by
  subst hn; subst hx; subst h
  exact ⟨fun er h => (by cases h), fun b' q' h => (by injection h with h; injection h with h1 h2; subst h1; subst h2; exact ⟨A, c, rfl, ho⟩), hb⟩
theorem fr_err {w w' : World} {r : Except Int (List UInt8 × Nat)} {er : Int} (h : r = .error er) (hb : Below w.heap.size w w') : FrPost w r (.returned (.tuple #[.slice none 0 0, .int .i64 0, .int .i64 er])) w' := by
  subst h
  exact ⟨fun er h => (by injection h with h; subst h; rfl), fun b' q' h => (by cases h), hb⟩

theorem sum_one (W : World) (Ak : Option Addr) (n ck B : Nat) (seg : List UInt8) (hn : n = seg.length) (hr : Rd W B Ak (bv seg)) (hB : B ≤ W.heap.size) (hT : Tab W) (h0 : 0 < W.heap.size) (hl : seg.length ≤ 140737488355328) :
    Calls Tryd.prog 69 #[.slice (some ⟨W.heap.size, 0, none⟩) 1 1] (W.alloc (.cells #[.slice Ak n ck] 30)) fun e w' => e = .returned (.int .u32 (crc seg : Nat)) ∧ W.alloc (.cells #[.slice Ak n ck] 30) = w' := by
  have hb : Below W.heap.size W (W.alloc (.cells #[.slice Ak n ck] 30)) := (Below.refl _ _).alloc (Nat.le_refl _) _
  have h := sum_ok (some ⟨W.heap.size, 0, none⟩) 1 (W.heap.size + 1) [seg] (W.alloc (.cells #[.slice Ak n ck] 30)) ?_ (hT.below hb h0) (by simp) (by simpa using hl)
  · refine h.mono ?_
    rintro e w' ⟨rfl, rfl⟩
    exact ⟨by simp, rfl⟩
  · intro k hk
    have : k = 0 := by simp at hk; exact hk
    subst this
    refine ⟨W.heap.size, 0, Ak, ck, rfl, by omega, ?_, (hr.below hb hB).more (by omega)⟩
    subst hn
    rw [Nat.add_zero, cell_of_row _ _ 0 _ _ (0, 0) (heap_alloc_new W _)]
    rfl

theorem or_shl {a b n k : Nat} (ha : a < 2 ^ k) (hb : b < 256) (hk : 2 ^ k * 256 ≤ 4294967296) (hn : n = 2 ^ k) : bits .or .u32 (a : Int) ((b : Int) * (n : Int)) = ((a + b * n : Nat) : Int) := by
  subst hn
  have h1 : b * 2 ^ k ≤ 255 * 2 ^ k := Nat.mul_le_mul_right _ (by omega)
  rw [show (b : Int) * ((2 ^ k : Nat) : Int) = ((b * 2 ^ k : Nat) : Int) from by norm_cast, u32_or_nat _ _ (by omega) (by omega), Nat.or_comm, nat_join k _ _ (Nat.mul_mod_left _ _) ha, Nat.add_comm]
theorem or_four {y0 y1 y2 y3 : Nat} (h0 : y0 < 256) (h1 : y1 < 256) (h2 : y2 < 256) (h3 : y3 < 256) :
    bits .or .u32 (bits .or .u32 (bits .or .u32 (y0 : Int) ((y1 : Int) * 256)) ((y2 : Int) * 65536)) ((y3 : Int) * 16777216) = ((y0 + y1 * 256 + y2 * 65536 + y3 * 16777216 : Nat) : Int) := by
  have e1 := or_shl (a := y0) (b := y1) (n := 256) (k := 8) (by omega) h1 (by omega) (by omega)
  have e2 := or_shl (a := y0 + y1 * 256) (b := y2) (n := 65536) (k := 16) (by omega) h2 (by omega) (by omega)
  have e3 := or_shl (a := y0 + y1 * 256 + y2 * 65536) (b := y3) (n := 16777216) (k := 24) (by omega) h3 (by omega) (by omega)
  rw [show (256 : Int) = ((256 : Nat) : Int) from rfl, e1, show (65536 : Int) = ((65536 : Nat) : Int) from rfl, e2, show (16777216 : Int) = ((16777216 : Nat) : Int) from rfl, e3]

set_option maxRecDepth 100000 in
set_option maxHeartbeats 1000000 in
theorem readFrame_ok (A : Option Addr) (c : Nat) (l : List UInt8) (at_ : Nat) (w : World) (hr : Rd w w.heap.size A (bv l)) (hcap : l.length ≤ c) (hl : l.length ≤ 140737488355328) (hat : at_ ≤ 9223372036854775807) (hT : Tab w) (h0 : 0 < w.heap.size) :
    Calls Tryd.prog 43 #[.slice A l.length c, .int .i64 at_] w (FrPost w (rdFrame l at_)) := by
  have hc := bounds_ok A c w.heap.size l at_ w hr hl hat
  cases hu : rdBounds l at_ with
  | error e =>
    have he : (e != 0) = true := bne_iff_ne.2 (rdBounds_err hu)
    have HB : Hd (rdFrame l at_ = .error e) := ⟨by unfold rdFrame; rw [hu]⟩
    rw [hu] at hc
    have HC := Hd.mk hc
    clear hc hr hu
    go_enter Tryd.func43, Tryd.ntmps43
    go_wp2_with (go_at_call 72; refine HC.out.mono ?_; rintro e w' ⟨rfl, rfl⟩; simp only [retB])
    go_ret3
    exact fr_err HB.out (Below.refl _ _)
  | ok x =>
    obtain ⟨f, t⟩ := x
    obtain ⟨k1, k2, k3, k4, k5, _⟩ := rdBounds_ok hu
    have HB := Hd.mk (rdFrame_of hu)
    rw [hu] at hc
    have HC := Hd.mk hc
    clear hc hu
    obtain ⟨b, off, rfl, hbB, c0⟩ := hr.at_ (bv_get l t (by omega))
    obtain ⟨b1, off1, e1, _, c1⟩ := hr.at_ (bv_get l (t + 1) (by omega))
    obtain ⟨b2, off2, e2, _, c2⟩ := hr.at_ (bv_get l (t + 2) (by omega))
    obtain ⟨b3, off3, e3, _, c3⟩ := hr.at_ (bv_get l (t + 3) (by omega))
    obtain ⟨rfl, rfl⟩ : b = b1 ∧ off = off1 := by simpa using e1
    obtain ⟨rfl, rfl⟩ : b = b2 ∧ off = off2 := by simpa using e2
    obtain ⟨rfl, rfl⟩ : b = b3 ∧ off = off3 := by simpa using e3
    have HL : Hd (le32 l t = _) := ⟨by unfold le32; rw [getD_get l t (by omega), getD_get l (t + 1) (by omega), getD_get l (t + 2) (by omega), getD_get l (t + 3) (by omega)]⟩
    have x0 := (l[t]).toNat_lt
    have x1 := (l[t + 1]).toNat_lt
    have x2 := (l[t + 2]).toNat_lt
    have x3 := (l[t + 3]).toNat_lt
    have HT := Hd.mk hT
    have HR := Hd.mk hr
    clear hT hr e1 e2 e3
    generalize l[t] = y0 at *
    generalize l[t + 1] = y1 at *
    generalize l[t + 2] = y2 at *
    generalize l[t + 3] = y3 at *
    have i0 : (0 : Int) ≤ (t : Int) ∧ (t : Int) < l.length := by omega
    have i1 : (0 : Int) ≤ (t : Int) + 1 ∧ (t : Int) + 1 < l.length := by omega
    have i2 : (0 : Int) ≤ (t : Int) + 2 ∧ (t : Int) + 2 < l.length := by omega
    have i3 : (0 : Int) ≤ (t : Int) + 3 ∧ (t : Int) + 3 < l.length := by omega
    have hE := or_four (y0 := y0.toNat) (y1 := y1.toNat) (y2 := y2.toNat) (y3 := y3.toNat) (by omega) (by omega) (by omega) (by omega)
    rw [← HL.out] at hE
    clear HL
    generalize le32 l t = T at *
    have HCut := Hd.mk (HR.out.subB at_ (t - at_))
    have HSeg := Hd.mk (show t - at_ = ((l.drop at_).take (t - at_)).length by simp; omega)
    have HSl := Hd.mk (show ((l.drop at_).take (t - at_)).length ≤ 140737488355328 by simp; omega)
    obtain ⟨s, hs⟩ : ∃ s, s = crc ((l.drop at_).take (t - at_)) := ⟨_, rfl⟩
    rw [← hs] at HB
    have HS := Hd.mk hs
    clear hs
    have HW : ∀ n, Below w.heap.size w (w.drewN n) := fun n => below_drewN (Below.refl _ _) n
    obtain ⟨q, hq⟩ : ∃ q : Bool, ((T : Int) != (s : Int)) = q := ⟨_, rfl⟩
    have HQ := Hd.mk hq
    go_enter Tryd.func43, Tryd.ntmps43
    go_wp2_with (go_at_call 72; refine HC.out.mono ?_; rintro e w' ⟨rfl, rfl⟩; simp only [retB])
    go_quiet (fail)
    have HW2 : Below w.heap.size w ((w.drewN nq).alloc (.cells #[.slice (some ⟨b, off + at_, none⟩) (t - at_) (c - at_)] 30)) := (HW nq).alloc (Nat.le_refl _) _
    go_wp2_with (first
      | (go_at_call 69; refine (sum_one (w.drewN nq) _ _ _ w.heap.size ((l.drop at_).take (t - at_)) HSeg.out (HCut.out.below (HW nq) (Nat.le_refl _)) (Nat.le_refl _) (HT.out.below (HW nq) h0) h0 HSl.out).mono ?_; rw [← HS.out]; rintro e w' ⟨rfl, rfl⟩)
      | (go_at_call 73; refine (piece_ok _ c w.heap.size l f t _ (HR.out.below HW2 (Nat.le_refl _)) hcap hl (by omega) (by omega) (by omega)).mono ?_; rintro e w1 ⟨A1, c1, rfl, ho1, hb1⟩))
    · go_ret3
      exact fr_err (by rw [HB.out, if_pos]; have h := HQ.out; rw [show q = true from by assumption] at h; have := bne_iff_ne.1 h; omega) HW2
    · go_ret3
      have hT : T = s := by have h := HQ.out; rw [show q = false from by assumption] at h; have := bne_eq_false_iff_eq.1 h; omega
      refine fr_ok (by rw [HB.out, if_neg (by omega)]) (by simp) (by omega) ?_ (HW2.trans (hb1.mono HW2.size))
      rw [show (f : Int).toNat = f from by simp, show (t : Int).toNat = t from by simp] at ho1
      exact own_low ho1 HW2.size

/-- what a call hands back that makes bytes, or tells an error -/
def BtPost (w : World) (r : Except Int (List UInt8)) (e : Ending) (w' : World) : Prop :=
  (∀ er, r = .error er → e = .returned (.tuple #[.slice none 0 0, .int .i64 er])) ∧
  (∀ l, r = .ok l → ∃ A c, e = .returned (.tuple #[.slice A l.length c, .int .i64 0]) ∧ FB 5 w.heap.size w' A c l) ∧ Below w.heap.size w w'
theorem bt_ok {w w' : World} {r : Except Int (List UInt8)} {l : List UInt8} {n : Nat} {A : Option Addr} {c : Nat} (h : r = .ok l) (hn : n = l.length) (ho : FB 5 w.heap.size w' A c l) (hb : Below w.heap.size w w') :
    BtPost w r (.returned (.tuple #[.slice A n c, .int .i64 0])) w' := by
  subst hn; subst h
  exact ⟨fun er h => (by cases h), fun b' h => (by injection h with h; subst h; exact ⟨A, c, rfl, ho⟩), hb⟩
theorem bt_err {w w' : World} {r : Except Int (List UInt8)} {er : Int} (h : r = .error er) (hb : Below w.heap.size w w') : BtPost w r (.returned (.tuple #[.slice none 0 0, .int .i64 er])) w' := by
  subst h
  exact ⟨fun er h => (by injection h with h; subst h; rfl), fun b' h => (by cases h), hb⟩

theorem flen_succ (ps : List (List UInt8)) (k : Nat) (h : k < ps.length) : (ps.take (k + 1)).flatten.length = (ps.take k).flatten.length + (ps[k]).length := by
  rw [List.take_succ_eq_append_getElem h, List.flatten_append, List.length_append]; simp [-List.length_flatten]
theorem le4_cells (l : List UInt8) (s : Nat) (h : s < 4294967296) : bv l ++ [Value.int .u8 ((s : Int) % 256), .int .u8 ((s : Int) / 256 % 256), .int .u8 ((s : Int) / 65536 % 256), .int .u8 ((s : Int) / 16777216), .int .u8 165] = bv (l ++ (le4 s ++ [165])) := by
  rw [bv_app, le4]
  congr 1
  simp only [bv, List.cons_append, List.nil_append, List.map_cons, List.map_nil, UInt8.toNat_ofNat']
  congr 2
  · omega
  congr 2
  · omega
  congr 2
  · omega
  congr 2
  omega
theorem flat_succ (ps : List (List UInt8)) (k : Nat) (h : k < ps.length) : (ps.take (k + 1)).flatten = (ps.take k).flatten ++ ps[k] := by
  rw [List.take_succ_eq_append_getElem h, List.flatten_append, List.flatten_singleton]
theorem flen_le (ps : List (List UInt8)) (k : Nat) : (ps.take k).flatten.length ≤ ps.flatten.length := by
  conv => rhs; rw [← List.take_append_drop k ps, List.flatten_append, List.length_append]
  omega

set_option maxRecDepth 100000 in
set_option maxHeartbeats 1000000 in
theorem frame_ok (A : Option Addr) (c : Nat) (ps : List (List UInt8)) (w : World) (hr : RdPs w w.heap.size A ps) (hT : Tab w) (h0 : 0 < w.heap.size) (hn : ps.length ≤ 140737488355328) (hl : ∀ p ∈ ps, p.length ≤ 140737488355328) :
    Calls Tryd.prog 39 #[.slice A ps.length c] w (BtPost w (frameOf ps.flatten)) := by
  have HL := Hd.mk hl
  have HT := Hd.mk hT
  clear hT hl
  go_enter Tryd.func39, Tryd.ntmps39
  go_wp2_with fail
  go_loop [4, 14] (fun n i => ∃ k m : Nat, k ≤ ps.length ∧ i = .int .i64 k ∧ n = .int .i64 m ∧ m ≤ 1048576 ∧ Hd (m = (ps.take k).flatten.length)) (fun _ i => ps.length - (intOf i).toNat)
  case atStart => exact ⟨0, 0, by omega, rfl, rfl, by omega, ⟨by simp⟩⟩
  case round =>
    obtain ⟨k, m, hk, rfl, rfl, hm, H⟩ := hrel
    by_cases hlt : k < ps.length
    · obtain ⟨b, off, Ak, ck, rfl, hb, hc, hp⟩ := hr k hlt
      have HL2 : (ps[k]).length ≤ 140737488355328 := HL.out _ (List.getElem_mem hlt)
      have HS := Hd.mk (flen_succ ps k hlt)
      have HF := Hd.mk (flen_le ps (k + 1))
      clear hr
      generalize ps[k] = p at *
      go_wp2_with fail
      · go_ret2
        exact bt_err (by rw [frameOf, if_pos]; have := H.out; have := HS.out; have := HF.out; omega) (Below.refl _ _)
      · go_round
        case rel => exact ⟨k + 1, m + p.length, by omega, by go_num, by go_num, by omega, ⟨by have := H.out; have := HS.out; omega⟩⟩
        case measure => simp [intOf]; omega
    · have HM : Hd (m = ps.flatten.length) := ⟨by rw [H.out, List.take_of_length_le (by omega)]⟩
      clear H
      by_cases hm0 : m = 0
      · have hq : ((m : Int) == 0) = true := by simpa using hm0
        go_wp2_with fail
        go_ret2
        exact bt_err (by rw [frameOf, if_neg (by have := HM.out; omega), if_pos (by have := HM.out; omega)]) (Below.refl _ _)
      · have hq : ((m : Int) == 0) = false := by simpa using hm0
        have hU := uint_ok m ⟨by omega⟩ w
        have hd10 := leb_ten (n := m) ⟨by omega⟩
        obtain ⟨hd, hhd⟩ : ∃ hd, hd = leb m := ⟨_, rfl⟩
        rw [← hhd] at hU hd10
        have HU := Hd.mk hU
        have HHD := Hd.mk hhd
        clear hU hhd
        have hmk : ∀ W, (Instr.makeSlice 30 (.int .i64 0) (.int .i64 ((hd.length : Int) + m + 5))).run Tryd.prog W = .ok (.slice (some ⟨W.heap.size, 0, none⟩) 0 (hd.length + m + 5)) (W.alloc (.cells (madeCells #[.int .u8 0] (hd.length + m + 5)) 5)) := by
          intro W
          have h := Tb.run_make (.int .u8 0) u8z rfl .i64 .i64 0 ((hd.length : Int) + m + 5) (by omega) (by omega) (by omega) (by omega) W
          rw [show ((hd.length : Int) + m + 5).toNat = hd.length + m + 5 from by omega] at h
          exact h
        go_wp2_with (first
          | (go_at_call 38; refine HU.out.mono ?_; rintro e w1 ⟨A1, c1, rfl, ho1, hb1⟩)
          | (at_builtin; refine app_rd Tb (.tmp 36) (.tmp 37) rfl rfl w1.heap.size _ _ [] rfl (World.ownsRow_made w1 _ _ (Nat.le_refl _) (by simp only [maxLen]; omega) (by simp [size_madeCells])) w1.heap.size A1 _ c1 (bv hd) rfl (ho1.rd.below ((Below.refl _ _).alloc (Nat.le_refl _) _) (Nat.le_refl _)) (by rw [bv_len]; omega) (bv_one hd) (by omega) (by simp) (by omega) (by omega) ?_; intro A2 c2 w2 ho2 hb2 _ _; simp only [Nat.zero_add, List.nil_append] at ho2))
        have hB2 : Below w1.heap.size w1 w2 := ((Below.refl _ _).alloc (Nat.le_refl _) _).trans hb2
        have hs1 := hb1.size
        clear hb2 ho1
        go_loopw [8, 41] (fun out i wr => ∃ (k : Nat) (A : Option Addr) (c n : Nat) (l : List UInt8), k ≤ ps.length ∧ i = .int .i64 k ∧ out = .slice A n c ∧ wr.ownsRow w1.heap.size 5 1 (.slice A n c) n (bv l) ∧ Below w1.heap.size w1 wr ∧ n ≤ hd.length + m ∧ Hd (l = hd ++ (ps.take k).flatten)) (fun _ i _ => ps.length - (intOf i).toNat)
        case atStart => exact ⟨0, A2, c2, hd.length, hd, by omega, rfl, by simp, by simpa using ho2, hB2, by omega, ⟨by simp⟩⟩
        case round =>
          obtain ⟨k2, A3, c3, n, l, hk2, rfl, rfl, ho3, hb3, hn3, H3⟩ := hrel
          have hs3 := hb3.size
          have hbw : Below w.heap.size w wr := hb1.trans (hb3.mono hs1)
          have hnl := Hd.mk (ret_bv ho3)
          by_cases hlt2 : k2 < ps.length
          · obtain ⟨b, off, Ak, ck, rfl, hb, hc, hp⟩ := (hr.below hbw (Nat.le_refl _)) k2 hlt2
            have HS := Hd.mk (flen_succ ps k2 hlt2)
            have HF := Hd.mk (flen_le ps (k2 + 1))
            have HX := Hd.mk (show hd ++ (ps.take (k2 + 1)).flatten = hd ++ (ps.take k2).flatten ++ ps[k2] by rw [flat_succ ps k2 hlt2, List.append_assoc])
            have hpm : n + (ps[k2]).length ≤ hd.length + m := by
              have h1 := hnl.out
              rw [H3.out, List.length_append] at h1
              have h2 := HS.out
              have h3 := HF.out
              have h4 := HM.out
              omega
            clear hr HS HF
            generalize ps[k2] = p at *
            go_wp2_with (at_builtin; refine app_rd Tb (.tmp 45) (.tmp 46) rfl rfl w1.heap.size _ _ (bv l) rfl ho3 w.heap.size Ak _ ck (bv p) rfl hp (by rw [bv_len]; omega) (bv_one p) (by omega) hs3 (by omega) (by omega) ?_; intro A4 c4 w4 ho4 hb4 _ _)
            go_roundw
            case rel => exact ⟨k2 + 1, A4, c4, n + p.length, l ++ p, by omega, by go_num, rfl, by rw [bv_app]; exact ho4, hb3.trans hb4, hpm, ⟨by rw [HX.out, H3.out]⟩⟩
            case measure => simp [intOf]; omega
          · have HFl := Hd.mk (show l = leb ps.flatten.length ++ ps.flatten by rw [H3.out, List.take_of_length_le (by omega), HHD.out, HM.out])
            have hcr := crc_lt l
            have HSum := Hd.mk (sum_one wr A3 n c3 wr.heap.size l hnl.out (Rd.of_own ho3) (Nat.le_refl _) (HT.out.below hbw h0) (by have := hbw.size; omega) (by have := hnl.out; omega))
            obtain ⟨s, hs⟩ : ∃ s, s = crc l := ⟨_, rfl⟩
            rw [← hs] at HSum hcr
            have HSc := Hd.mk hs
            clear hs
            go_wp2_with (first
              | (go_at_call 69; refine HSum.out.mono ?_; rintro e w' ⟨rfl, rfl⟩)
              | (at_builtin; (refine app_lit Tb (.tmp 52) (.tmp 64) rfl rfl _ w1.heap.size _ _ (bv l) rfl (ho3.alloc _) 5 _ rfl (by simp) rfl (by simp [Value.oneCell']) (by omega) (by simp; omega) (by omega) (by omega) ?_); intro A5 c5 w5 ho5 hb5 _ _))
            go_ret2
            have hb5' : Below w1.heap.size wr w5 := ((Below.refl _ _).alloc hs3 _).trans hb5
            refine bt_ok (l := frameB ps.flatten) (by rw [frameOf, if_neg (by have := HM.out; omega), if_neg (by have := HM.out; omega)]) ?_ ?_ (hbw.trans (hb5'.mono hs1))
            · rw [frameB, ← HFl.out, List.length_append, ← hnl.out]; simp [le4]
            · have e : bv l ++ [Value.int .u8 ((s : Int) % 256), .int .u8 ((s : Int) / 256 % 256), .int .u8 ((s : Int) / 65536 % 256), .int .u8 ((s : Int) / 16777216), .int .u8 165] = bv (frameB ps.flatten) := by
                rw [le4_cells l s hcr, frameB, ← HFl.out, HSc.out]
              exact FBmk (own_low ho5 hs1) (by have := ret_bv (e ▸ ho5); omega) e
end Go.Proofs.YtamodllgeabpoaaDoor
