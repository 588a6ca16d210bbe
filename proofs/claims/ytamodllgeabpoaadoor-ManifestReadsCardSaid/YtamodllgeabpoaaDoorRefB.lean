/- Contracts of the reference's functions of layer 1: sums, frames. -/
import Derived.Test.YtamodllgeabpoaaDoorWireC
import Derived.Test.YtamodllgeabpoaaDoorRefA
import Derived.Test.YtamodllgeabpoaaDoorSpecB
namespace Go.Proofs.YtamodllgeabpoaaDoor
open Go.RowKit

set_option maxRecDepth 100000 in
set_option maxHeartbeats 400000 in
theorem part_ok (A : Option Addr) (c B : Nat) (l : List UInt8) (f t : Int) (w : World) (hr : Rd w B A (bv l)) (hB : B ≤ w.heap.size) (hl : l.length ≤ 140737488355328) (h0 : 0 ≤ f) (h1 : f ≤ t) (h2 : t ≤ l.length) :
    Calls Tryd.prog 76 #[.slice A l.length c, .int .i64 f, .int .i64 t] w fun e w' => ∃ A' c', e = .returned (.slice A' ((l.drop f.toNat).take (t.toNat - f.toNat)).length c') ∧ FB 5 w.heap.size w' A' c' ((l.drop f.toNat).take (t.toNat - f.toNat)) ∧ Below w.heap.size w w' := by
  obtain ⟨f, rfl⟩ := Int.eq_ofNat_of_zero_le h0
  obtain ⟨t, rfl⟩ := Int.eq_ofNat_of_zero_le (show 0 ≤ t by omega)
  rw [Int.toNat_natCast, Int.toNat_natCast]
  go_enter Tryd.func76, Tryd.ntmps76
  go_wp2_with fail
  go_loopw [7, 8] (fun out i wr => ∃ (k : Nat) (A1 : Option Addr) (c1 : Nat), k ≤ t - f ∧ i = .int .i64 ((f + k : Nat) : Int) ∧ out = .slice A1 k c1 ∧ wr.ownsRow w.heap.size 5 1 (.slice A1 k c1) k (bv ((l.drop f).take k)) ∧ Below w.heap.size w wr) (fun _ i _ => t - (intOf i).toNat)
  case atStart => exact ⟨0, none, 0, by omega, rfl, rfl, World.ownsRow_nil _ _ _ _, Below.refl _ _⟩
  case round =>
    obtain ⟨k, A1, c1, hk, rfl, rfl, ho, hb⟩ := hrel
    have hs := hb.size
    by_cases hlt : f + k < t
    · obtain ⟨b, off, rfl, hbB, hc⟩ := (hr.below hb hB).at_ (bv_get l (f + k) (by omega))
      have HX := Hd.mk (show (l.drop f).take (k + 1) = (l.drop f).take k ++ [l[f + k]] by rw [List.take_succ_eq_append_getElem (by simp; omega)]; simp)
      generalize l[f + k] = x at *
      generalize hL : (l.drop f).take k = L at *
      have HL := Hd.mk hL
      clear hL
      go_wp2_with (at_builtin; refine app_lit Tb (.tmp 15) (.tmp 20) rfl rfl _ w.heap.size _ _ (bv L) rfl ho 1 _ rfl (by simp) rfl (by simp; rfl) (by omega) hs (by omega) (by omega) ?_; intro A2 c2 w2 ho2 hb2 _ _)
      go_roundw
      case rel => exact ⟨k + 1, A2, c2, by omega, by go_num, rfl, by rw [HX.out, ← bv_snoc L x rfl]; exact ho2, hb.trans hb2⟩
      case measure => simp [intOf]; omega
    · have hkt : k = t - f := by omega
      go_wp2_with fail
      go_ret
      have hlen := ret_bv ho
      rw [hkt] at ho hlen ⊢
      rw [← hlen]
      exact ⟨A1, c1, rfl, FBmk ho hlen rfl, hb⟩

set_option maxRecDepth 100000 in
set_option maxHeartbeats 400000 in
theorem bytes_ref (A : Option Addr) (c : Nat) (l : List UInt8) (w : World) (hr : Rd w w.heap.size A (bv l)) (hl : l.length ≤ 100000000000000) :
    Calls Tryd.prog 70 #[.slice A l.length c] w fun e w' => ∃ A' c', e = .returned (.slice A' (leb l.length ++ l).length c') ∧ FB 5 w.heap.size w' A' c' (leb l.length ++ l) ∧ Below w.heap.size w w' := by
  have hU := refUint_ok l.length ⟨by omega⟩ w
  have hd10 := leb_ten (n := l.length) ⟨by omega⟩
  obtain ⟨hd, hhd⟩ : ∃ hd, hd = leb l.length := ⟨_, rfl⟩
  rw [← hhd] at hU hd10 ⊢
  have HU := Hd.mk hU
  clear hU hhd
  go_enter Tryd.func70, Tryd.ntmps70
  go_wp2_with (first
    | (go_at_call 41; refine HU.out.mono ?_; rintro e w1 ⟨A1, c1, rfl, ho1, hb1⟩)
    | (at_builtin; refine app_rd Tb (.tmp 8) (.tmp 9) rfl rfl w.heap.size _ _ (bv hd) rfl ho1 w.heap.size A _ c (bv l) rfl (hr.below hb1 (Nat.le_refl _)) (by rw [bv_len]; omega) (bv_one l) (by omega) hb1.size (by omega) (by omega) ?_; intro A2 c2 w2 ho2 hb2 _ _))
  go_ret
  rw [List.length_append]
  exact ⟨A2, c2, rfl, FBmk (by rw [List.length_append]; exact ho2) rfl (by rw [bv_app]), hb1.trans hb2⟩

theorem cbit_odd {r : Nat} (h : r % 2 = 1) : cbit r = r / 2 ^^^ 3988292384 := by unfold cbit; rw [if_pos h]
theorem cbit_ev {r : Nat} (h : ¬ r % 2 = 1) : cbit r = r / 2 := by unfold cbit; rw [if_neg h]
/-- n steps of the sum -/
def cbits : Nat → Nat → Nat
  | 0, r => r
  | n + 1, r => cbits n (cbit r)
theorem cbits_8 (r : Nat) : cbits 8 r = cfour (cfour r) := rfl

set_option maxRecDepth 100000 in
set_option maxHeartbeats 1000000 in
theorem refSum_ok (A : Option Addr) (c B : Nat) (l : List UInt8) (w : World) (hr : Rd w B A (bv l)) (hl : l.length ≤ 140737488355328) :
    Calls Tryd.prog 71 #[.slice A l.length c] w fun e w' => e = .returned (.int .u32 (crc l : Nat)) ∧ w = w' := by
  go_enter Tryd.func71, Tryd.ntmps71
  go_wp2_with fail
  go_loop [3, 4] (fun c i => ∃ k r : Nat, k ≤ l.length ∧ i = .int .i64 k ∧ c = .int .u32 r ∧ Hd (r < 4294967296 ∧ craw 4294967295 l = craw r (l.drop k))) (fun _ i => l.length - (intOf i).toNat)
  case atStart => exact ⟨0, 4294967295, by omega, rfl, rfl, ⟨by omega, rfl⟩⟩
  case round =>
    obtain ⟨k, r, hk, rfl, rfl, H⟩ := hrel
    by_cases hlt : k < l.length
    · obtain ⟨b, off, rfl, hb, hc⟩ := hr.at_ (bv_get l _ hlt)
      have HD := Hd.mk (show craw 4294967295 l = craw (cbyte r (l[k])) (l.drop (k + 1)) by rw [H.out.2, List.drop_eq_getElem_cons hlt]; rfl)
      have e1 := xor_u32 r (l[k]).toNat H.out.1 (by have := (l[k]).toNat_lt; omega)
      have HF := Hd.mk (show cbyte r (l[k]) = cbits 8 (r ^^^ (l[k]).toNat) ∧ r ^^^ (l[k]).toNat < 4294967296 from ⟨rfl, cxor_lt H.out.1 _⟩)
      have hx := (l[k]).toNat_lt
      clear hr H
      generalize l[k] = x at *
      generalize r ^^^ x.toNat = r2 at *
      go_wp2_with fail
      go_loop [3, 5] (fun c i => ∃ j r1 : Nat, j ≤ 8 ∧ i = .int .i64 j ∧ c = .int .u32 r1 ∧ r1 < 4294967296 ∧ Hd (cbits 8 r2 = cbits (8 - j) r1)) (fun _ i => 8 - (intOf i).toNat)
      case atStart => exact ⟨0, r2, by omega, rfl, rfl, HF.out.2, ⟨rfl⟩⟩
      case round =>
        obtain ⟨j, r1, hj, rfl, rfl, hr1, H1⟩ := hrel
        by_cases hj8 : j < 8
        · have HS := Hd.mk (show cbits 8 r2 = cbits (8 - (j + 1)) (cbit r1) by rw [H1.out, show 8 - j = (8 - (j + 1)) + 1 from by omega]; rfl)
          have HL := Hd.mk (cbit_lt hr1)
          have e2 := xor_u32 (r1 / 2) 3988292384 (by omega) (by omega)
          rw [show ((r1 / 2 : Nat) : Int) = (r1 : Int) / 2 from by omega, show ((3988292384 : Nat) : Int) = 3988292384 from rfl] at e2
          have E2 := Hd.mk e2
          clear H1 e2
          go_wp2_with fail
          · go_round
            case rel => 
              have ho : r1 % 2 = 1 := by have h : ((r1 : Int) % 2 == 1) = true := (by assumption); have := beq_iff_eq.1 h; omega
              exact ⟨j + 1, cbit r1, by omega, by go_num, congrArg (Value.int .u32) (E2.out.trans (by rw [cbit_odd ho])), HL.out, ⟨HS.out⟩⟩
            case measure => simp [intOf]; omega
          · go_round
            case rel => 
              have ho : ¬ r1 % 2 = 1 := by have h : ((r1 : Int) % 2 == 1) = false := (by assumption); have := beq_eq_false_iff_ne.1 h; omega
              exact ⟨j + 1, cbit r1, by omega, by go_num, congrArg (Value.int .u32) (by rw [cbit_ev ho]; omega), HL.out, ⟨HS.out⟩⟩
            case measure => simp [intOf]; omega
        · have HX := Hd.mk (show cbits 8 r2 = r1 by rw [H1.out, show 8 - j = 0 from by omega]; rfl)
          go_wp2_with fail
          go_round
          case rel => exact ⟨k + 1, r1, by omega, by go_num, rfl, ⟨hr1, by rw [HD.out, HF.out.1, HX.out]⟩⟩
          case measure => simp [intOf]; omega
    · have HX := Hd.mk (show craw 4294967295 l = r by rw [H.out.2, List.drop_of_length_le (by omega)]; rfl)
      have hrl := H.out.1
      go_wp2_with fail
      go_ret
      exact ⟨congrArg (fun x => Ending.returned (.int .u32 x)) (by rw [crc, HX.out]; omega), rfl⟩

theorem frameOf_empty {l : List UInt8} (h : l.length = 0) : frameOf l = .error 14 := by rw [frameOf, if_neg (by omega), if_pos h]
theorem frameOf_long {l : List UInt8} (h : 1048576 < l.length) : frameOf l = .error 13 := by rw [frameOf, if_pos h]
theorem frameOf_ok {l : List UInt8} (h : 0 < l.length) (h1 : l.length ≤ 1048576) : frameOf l = .ok (frameB l) := by rw [frameOf, if_neg (by omega), if_neg (by omega)]
/-- the first j bytes of a number, lowest first -/
def lebytes : Nat → Nat → List UInt8
  | 0, _ => []
  | n + 1, s => UInt8.ofNat (s % 256) :: lebytes n (s / 256)
theorem lebytes_4 (s : Nat) : lebytes 4 s = le4 s := by simp only [lebytes, le4, Nat.div_div_eq_div_mul]
theorem lebytes_len (n : Nat) : ∀ s, (lebytes n s).length = n := by induction n with | zero => intro s; rfl | succ n ih => intro s; simp [lebytes, ih]
theorem lebytes_snoc (n : Nat) : ∀ s, lebytes (n + 1) s = lebytes n s ++ [UInt8.ofNat (s / 256 ^ n % 256)] := by
  induction n with
  | zero => intro s; simp [lebytes]
  | succ n ih => intro s; rw [lebytes, ih, lebytes, List.cons_append, Nat.div_div_eq_div_mul, Nat.pow_succ, Nat.mul_comm (256 ^ n)]

set_option maxRecDepth 100000 in
set_option maxHeartbeats 1000000 in
theorem refFrame_ok (A : Option Addr) (c : Nat) (l : List UInt8) (w : World) (hr : Rd w w.heap.size A (bv l)) (hl : l.length ≤ 100000000000000) :
    Calls Tryd.prog 42 #[.slice A l.length c] w (BtPost w (frameOf l)) := by
  by_cases h0 : l.length = 0
  · have hq : ((l.length : Int) == 0) = true := by simpa using h0
    have HF := Hd.mk (frameOf_empty h0)
    clear h0
    go_enter Tryd.func42, Tryd.ntmps42
    go_wp2_with fail
    go_ret2
    exact bt_err HF.out (Below.refl _ _)
  have hq : ((l.length : Int) == 0) = false := by simpa using h0
  by_cases h1 : 1048576 < l.length
  · have HF := Hd.mk (frameOf_long h1)
    go_enter Tryd.func42, Tryd.ntmps42
    go_wp2_with fail
    go_ret2
    exact bt_err HF.out (Below.refl _ _)
  have HF := Hd.mk (frameOf_ok (l := l) (by omega) (by omega))
  have hB := bytes_ref A c l w hr hl
  have hd10 := leb_ten (n := l.length) ⟨by omega⟩
  have hbl : (leb l.length ++ l).length ≤ 1048600 := by rw [List.length_append]; omega
  obtain ⟨b, hb⟩ : ∃ b, b = leb l.length ++ l := ⟨_, rfl⟩
  rw [← hb] at hB hbl
  have HB := Hd.mk hB
  have Hb := Hd.mk hb
  clear hB hb hd10
  go_enter Tryd.func42, Tryd.ntmps42
  go_wp2_with (first
    | (go_at_call 70; refine HB.out.mono ?_; rintro e w1 ⟨A1, c1, rfl, ho1, hb1⟩)
    | (go_at_call 71; refine (refSum_ok A1 c1 w1.heap.size b w1 ho1.rd (by omega)).mono ?_; rintro e w2 ⟨rfl, rfl⟩))
  have hs0 := crc_lt b
  obtain ⟨s, hs⟩ : ∃ s, s = crc b := ⟨_, rfl⟩
  rw [← hs] at hs0 ⊢
  have HS := Hd.mk hs
  clear hs
  go_loopw [4, 5, 6] (fun out sv k wr => ∃ (j s1 : Nat) (A1 : Option Addr) (c1 n : Nat) (q : List UInt8), j ≤ 4 ∧ k = .int .i64 j ∧ sv = .int .u32 s1 ∧ s1 < 4294967296 ∧ out = .slice A1 n c1 ∧ n = b.length + j ∧ wr.ownsRow w.heap.size 5 1 (.slice A1 n c1) n (bv q) ∧ Below w.heap.size w wr ∧ Hd (q = b ++ lebytes j s ∧ s1 = s / 256 ^ j)) (fun _ _ k _ => 4 - (intOf k).toNat)
  case atStart => exact ⟨0, s, A1, c1, b.length, b, by omega, rfl, rfl, hs0, rfl, by omega, ho1, hb1, ⟨by simp [lebytes], by simp⟩⟩
  case round =>
    obtain ⟨j, s1, A2, c2, n, q, hj, rfl, rfl, hs1, rfl, hn, ho2, hb2, H⟩ := hrel
    have hz := hb2.size
    have HN := Hd.mk hn
    have hn2 : n ≤ 1048700 := by omega
    clear hn
    by_cases hj4 : j < 4
    · go_wp2_with (at_builtin; refine app_lit Tb (.tmp 21) (.tmp 25) rfl rfl _ w.heap.size _ _ (bv q) rfl ho2 1 _ rfl (by simp) rfl (by simp; rfl) (by omega) hz (by omega) (by omega) ?_; intro A3 c3 w3 ho3 hb3 _ _)
      go_roundw
      case rel =>
        exact ⟨j + 1, s1 / 256, A3, c3, n + 1, q ++ [UInt8.ofNat (s1 % 256)], by omega, by go_num, by go_num, by omega, rfl, by have := HN.out; omega,
          by rw [← bv_snoc q (UInt8.ofNat (s1 % 256)) (n := (s1 : Int) % 256) (by rw [UInt8.toNat_ofNat']; omega)]; exact ho3, hb2.trans hb3, ⟨by rw [lebytes_snoc, ← List.append_assoc, ← H.out.1, ← H.out.2], by rw [H.out.2, Nat.div_div_eq_div_mul, Nat.pow_succ]⟩⟩
      case measure => simp [intOf]; omega
    · have HQ := Hd.mk (show bv q ++ [.int .u8 165] = bv (frameB l) by
        have : j = 4 := by omega
        subst this
        rw [bv_snoc q 165 (n := 165) rfl, H.out.1, lebytes_4, frameB, ← Hb.out, HS.out, List.append_assoc])
      go_wp2_with (at_builtin; refine app_lit Tb (.tmp 29) (.tmp 30) rfl rfl _ w.heap.size _ _ (bv q) rfl ho2 1 _ rfl (by simp) rfl (by simp; rfl) (by omega) hz (by omega) (by omega) ?_; intro A3 c3 w3 ho3 hb3 _ _)
      go_ret2
      have e : bv q ++ [Value.int .u8 165] = bv (frameB l) := HQ.out
      have hlen := ret_bv (e ▸ ho3)
      exact bt_ok HF.out hlen (FBmk ho3 hlen e) (hb2.trans hb3)

set_option maxRecDepth 100000 in
set_option maxHeartbeats 1000000 in
theorem same_ok (A A' : Option Addr) (c c' B : Nat) (l v : List UInt8) (at_ : Nat) (w : World) (hr : Rd w B A (bv l)) (hv : Rd w B A' (bv v)) (hl : l.length ≤ 140737488355328) (hav : at_ + v.length ≤ l.length) :
    Calls Tryd.prog 77 #[.slice A l.length c, .int .i64 at_, .slice A' v.length c'] w fun e w' => e = .returned (.bool (decide ((l.drop at_).take v.length = v))) ∧ ∃ n, w' = w.drewN n := by
  have HV := Hd.mk hv
  have HR := Hd.mk hr
  clear hv hr
  go_enter Tryd.func77, Tryd.ntmps77
  go_wp2_with fail
  go_loopw [7] (fun i wr => ∃ k n : Nat, k ≤ v.length ∧ i = .int .i64 k ∧ wr = w.drewN n ∧ Hd ((l.drop at_).take k = v.take k)) (fun i _ => v.length - (intOf i).toNat)
  case atStart => exact ⟨0, 0, by omega, rfl, rfl, ⟨by simp⟩⟩
  case round =>
    obtain ⟨k, n, hk, rfl, rfl, H⟩ := hrel
    by_cases hlt : k < v.length
    · obtain ⟨b, off, rfl, hbB, hc1⟩ := HR.out.at_ (bv_get l (at_ + k) (by omega))
      obtain ⟨b2, off2, rfl, hbB2, hc2⟩ := HV.out.at_ (bv_get v k hlt)
      have HX := Hd.mk (show (l.drop at_).take (k + 1) = (l.drop at_).take k ++ [l[at_ + k]] by rw [List.take_succ_eq_append_getElem (by simp; omega)]; simp)
      have HY := Hd.mk (show v.take (k + 1) = v.take k ++ [v[k]] by rw [List.take_succ_eq_append_getElem hlt])
      have HZ := Hd.mk (show (l.drop at_).take v.length = v → l[at_ + k] = v[k] by
        intro h
        have h2 : ((l.drop at_).take v.length)[k]? = v[k]? := by rw [h]
        rw [List.getElem?_take, if_pos hlt, List.getElem?_drop, List.getElem?_eq_getElem (by omega), List.getElem?_eq_getElem hlt] at h2
        injection h2)
      have i0 : (0 : Int) ≤ (at_ : Int) + k ∧ (at_ : Int) + k < l.length := by omega
      have i1 : (0 : Int) ≤ (k : Int) ∧ (k : Int) < v.length := by omega
      generalize l[at_ + k] = x at *
      generalize v[k] = y at *
      go_wp2_with fail
      go_quiet (fail)
      go_wp2_with fail
      · go_ret
        have hne : ¬ x = y := by
          have h := bne_iff_ne.1 (show ((x.toNat : Int) != (y.toNat : Int)) = true by assumption)
          rintro rfl
          exact h rfl
        exact ⟨by rw [decide_eq_false (fun h => hne (HZ.out h))]; rfl, _, World.drewN_drewN ..⟩
      · go_roundw
        case rel =>
          have he : x = y := by
            have h := bne_eq_false_iff_eq.1 (show ((x.toNat : Int) != (y.toNat : Int)) = false by assumption)
            exact UInt8.toNat_inj.1 (by omega)
          exact ⟨k + 1, _, by omega, by go_num, rfl, ⟨by rw [HX.out, HY.out, H.out, he]⟩⟩
        case measure => simp [intOf]; omega
    · have hX : ((l.drop at_).take v.length = v) := by have h := H.out; rw [show k = v.length from by omega, List.take_length] at h; exact h
      have HX := Hd.mk hX
      clear hX
      go_wp2_with fail
      go_ret
      exact ⟨by rw [decide_eq_true HX.out]; rfl, n, rfl⟩

set_option maxRecDepth 100000 in
set_option maxHeartbeats 2000000 in
theorem refReadFrame_ok (A : Option Addr) (c : Nat) (l : List UInt8) (at_ : Nat) (w : World) (hr : Rd w w.heap.size A (bv l)) (hl : l.length ≤ 100000000000000) (hat : at_ ≤ 9223372036854775807) :
    Calls Tryd.prog 45 #[.slice A l.length c, .int .i64 at_] w (FrPost w (rdFrame l at_)) := by
  have hc := refReadUint_ok A c w.heap.size l at_ w hr (by omega) hat
  cases hu : readU l at_ with
  | error e =>
    have he : (e != 0) = true := bne_iff_ne.2 (readU_err hu)
    have HB : Hd (rdFrame l at_ = .error e) := ⟨by unfold rdFrame rdBounds; rw [hu]⟩
    rw [hu] at hc
    have HC := Hd.mk hc
    clear hc hr hu
    go_enter Tryd.func45, Tryd.ntmps45
    go_wp2_with (go_at_call 75; refine HC.out.mono ?_; rintro e w' ⟨rfl, rfl⟩; simp only [retU])
    go_ret3
    exact fr_err HB.out (Below.refl _ _)
  | ok x =>
    obtain ⟨n, p⟩ := x
    obtain ⟨k1, k2, k3, k4⟩ := readU_ok hu
    have HB := Hd.mk (rdBounds_of hu)
    rw [hu] at hc
    have HC := Hd.mk hc
    have K3 := Hd.mk k3
    clear hc hu k3
    by_cases h0 : n = 0
    · have hn0 : ((n : Int) == 0) = true := by simpa using h0
      have HF : Hd (rdFrame l at_ = .error 14) := ⟨by unfold rdFrame; rw [HB.out, if_pos h0]⟩
      go_enter Tryd.func45, Tryd.ntmps45
      go_wp2_with (go_at_call 75; refine HC.out.mono ?_; rintro e w' ⟨rfl, rfl⟩; simp only [retU])
      go_ret3
      exact fr_err HF.out (Below.refl _ _)
    have hn0 : ((n : Int) == 0) = false := by simpa using h0
    by_cases hbig : 1048576 < n
    · have HF : Hd (rdFrame l at_ = .error 13) := ⟨by unfold rdFrame; rw [HB.out, if_neg h0, if_pos hbig]⟩
      go_enter Tryd.func45, Tryd.ntmps45
      go_wp2_with (go_at_call 75; refine HC.out.mono ?_; rintro e w' ⟨rfl, rfl⟩; simp only [retU])
      go_ret3
      exact fr_err HF.out (Below.refl _ _)
    by_cases h3 : l.length < p + n + 5
    · have HF : Hd (rdFrame l at_ = .error 10) := ⟨by unfold rdFrame; rw [HB.out, if_neg h0, if_neg hbig, if_pos h3]⟩
      go_enter Tryd.func45, Tryd.ntmps45
      go_wp2_with (go_at_call 75; refine HC.out.mono ?_; rintro e w' ⟨rfl, rfl⟩; simp only [retU])
      go_ret3
      exact fr_err HF.out (Below.refl _ _)
    obtain ⟨b, off, rfl, hbB, hcell⟩ := hr.at_ (bv_get l (p + n + 4) (by omega))
    by_cases hm : l[p + n + 4] = 165
    · have HBd := Hd.mk (show rdBounds l at_ = .ok (p, p + n) by rw [HB.out, if_neg h0, if_neg hbig, if_neg h3, getD_get l _ (by omega), hm]; rfl)
      have hI := rdFrame_iff HBd.out (by rw [getD_get l _ (by omega)]; exact hm)
      have hF := rdFrame_of HBd.out
      rw [hm] at hcell
      have HR := Hd.mk hr
      obtain ⟨body, hbody⟩ : ∃ body, body = (l.drop p).take n := ⟨_, rfl⟩
      have hbl : body.length = n := by rw [hbody]; simp; omega
      rw [show p + n - p = n from by omega, ← hbody] at hI hF
      have HFo := Hd.mk (frameOf_ok (l := body) (by omega) (by omega))
      have HFl := Hd.mk (show (frameB body).length = p + n + 5 - at_ by rw [frameB_len, hbl]; have := (readU_leb (show readU l at_ = .ok (n, p) by have h := (rdBounds_ok HBd.out).2.2.2.2.2; rwa [show p + n - p = n from by omega] at h)).2; omega)
      rw [← HFl.out] at hI
      have HI := Hd.mk hI
      have HF := Hd.mk hF
      have HBy := Hd.mk hbody
      have HBl := Hd.mk hbl
      clear hI hF hbody hbl hr hm HB
      go_enter Tryd.func45, Tryd.ntmps45
      go_wp2_with (first
        | (go_at_call 75; refine HC.out.mono ?_; rintro e w' ⟨rfl, rfl⟩; simp only [retU])
        | (go_at_call 76; refine (part_ok _ c w.heap.size l p ((p : Int) + n) w HR.out (Nat.le_refl _) (by omega) (by omega) (by omega) (by omega)).mono ?_; rw [show (p : Int).toNat = p from by simp, show ((p : Int) + n).toNat - p = n from by omega, ← HBy.out]; rintro e w1 ⟨A1, c1, rfl, ho1, hb1⟩)
        | (go_at_call 42; refine (refFrame_ok A1 c1 body w1 ho1.rd (by have := HBl.out; omega)).mono ?_; rintro e w2 ⟨_, hok, hb2⟩; obtain ⟨A2, c2, rfl, ho2⟩ := hok _ HFo.out; clear hok)
        | (go_at_call 77; refine (same_ok _ A2 c c2 w2.heap.size l (frameB body) at_ w2 ((HR.out.below hb1 (Nat.le_refl _)).below (hb2.mono hb1.size) (Nat.le_refl _) |>.more (Nat.le_trans hb1.size hb2.size)) ho2.rd (by omega) (by rw [HFl.out]; omega)).mono ?_; rw [show decide ((l.drop at_).take (frameB body).length = frameB body) = decide (le32 l (p + n) = crc ((l.drop at_).take (p + n - at_))) from by simp only [HI.out]]; rintro e w3 ⟨rfl, k, rfl⟩))
      · have hne : le32 l (p + n) ≠ crc ((l.drop at_).take (p + n - at_)) := by
          have h : (!decide (le32 l (p + n) = crc ((l.drop at_).take (p + n - at_)))) = true := (by assumption)
          simpa using h
        go_ret3
        exact fr_err (by rw [HF.out, if_pos hne]) (below_drewN (hb1.trans (hb2.mono hb1.size)) k)
      · have he : le32 l (p + n) = crc ((l.drop at_).take (p + n - at_)) := by
          have h : (!decide (le32 l (p + n) = crc ((l.drop at_).take (p + n - at_)))) = false := (by assumption)
          simpa using h
        go_ret3
        exact fr_ok (by rw [HF.out, if_neg (fun h => h he)]) rfl (by omega) (own_drewN (own_below ho1 hb2) k) (below_drewN (hb1.trans (hb2.mono hb1.size)) k)
    · have HF : Hd (rdFrame l at_ = .error 15) := ⟨by unfold rdFrame; rw [HB.out, if_neg h0, if_neg hbig, if_neg h3, getD_get l _ (by omega), if_pos (fun h => hm (UInt8.toNat_inj.1 (by simpa using h)))]⟩
      have hx : (((l[p + n + 4]).toNat : Int) != 165) = true := bne_iff_ne.2 (fun h => hm (UInt8.toNat_inj.1 (by simp; omega)))
      generalize l[p + n + 4] = x at *
      clear hm
      go_enter Tryd.func45, Tryd.ntmps45
      go_wp2_with (go_at_call 75; refine HC.out.mono ?_; rintro e w' ⟨rfl, rfl⟩; simp only [retU])
      go_ret3
      exact fr_err HF.out (Below.refl _ _)
end Go.Proofs.YtamodllgeabpoaaDoor
