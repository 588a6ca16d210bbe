/- Contracts of package wire's functions: sums, frames. -/
import Derived.Test.YtamodllgeabpoaaDoorWire
namespace Go.Proofs.YtamodllgeabpoaaDoor
open Go.RowKit

/-- the table of the sum lies where the program's text lays it -/
def Tab (w : World) : Prop := ∀ i : Nat, i < 16 → w.cell? ⟨0, i, none⟩ = some (.int .u32 ((tbl.getD i 0 : Nat) : Int))
theorem Tab.below {w w' : World} {B : Nat} (h : Tab w) (hb : Below B w w') (h0 : 0 < B) : Tab w' := fun i hi => (hb.cell h0).trans (h i hi)
/-- a list of byte strings that is read -/
def RdPs (w : World) (B : Nat) (A : Option Addr) (ps : List (List UInt8)) : Prop :=
  ∀ k (h : k < ps.length), ∃ b off Ak ck, A = some ⟨b, off, none⟩ ∧ b < B ∧ w.cell? ⟨b, off + k, none⟩ = some (.slice Ak (ps[k]).length ck) ∧ Rd w B Ak (bv ps[k])
theorem RdPs.below {w w' : World} {B B' : Nat} {A : Option Addr} {ps : List (List UInt8)} (h : RdPs w B A ps) (hb : Below B' w w') (hB : B ≤ B') : RdPs w' B A ps := by
  intro k hk
  obtain ⟨b, off, Ak, ck, e, hl, hc, hr⟩ := h k hk
  exact ⟨b, off, Ak, ck, e, hl, (hb.cell (show b < B' by omega)).trans hc, hr.below hb hB⟩

theorem xor_u32 (a b : Nat) (ha : a < 4294967296) (hb : b < 4294967296) : bits .xor .u32 (a : Int) (b : Int) = ((a ^^^ b : Nat) : Int) := u32_xor_nat a b ha hb
theorem and15_u32 (a : Nat) (ha : a < 4294967296) : bits .and .u32 (a : Int) 15 = ((a % 16 : Nat) : Int) := by
  rw [show (15 : Int) = ((15 : Nat) : Int) from rfl, u32_and_nat a 15 ha (by omega), nat_mask4]

theorem not_nat (r : Nat) (h : r < 4294967296) : 4294967295 ^^^ r = 4294967295 - r := by
  apply Nat.eq_of_testBit_eq
  intro i
  have h1 := Nat.testBit_two_pow_sub_succ (n := 32) (x := r) (by omega) i
  have h2 := Nat.testBit_two_pow_sub_one 32 i
  rw [Nat.testBit_xor, show (4294967295 : Nat) = 2 ^ 32 - 1 from by decide, h2, show 2 ^ 32 - 1 - r = 2 ^ 32 - (r + 1) from by omega, h1]
  by_cases hi : i < 32
  · simp [hi]
  · have : r.testBit i = false := Nat.testBit_lt_two_pow (Nat.lt_of_lt_of_le h (show 2 ^ 32 ≤ 2 ^ i from Nat.pow_le_pow_right (by omega) (by omega)))
    simp [hi, this]
theorem not_u32 (r : Nat) (h : r < 4294967296) : bits .xor .u32 IntKind.u32.max (r : Int) = ((4294967295 - r : Nat) : Int) := by
  rw [show IntKind.u32.max = ((4294967295 : Nat) : Int) from by rfl, xor_u32 _ _ (by omega) h, not_nat r h]

set_option maxRecDepth 100000 in
set_option maxHeartbeats 1000000 in
theorem sum_ok (A : Option Addr) (c B : Nat) (ps : List (List UInt8)) (w : World) (hr : RdPs w B A ps) (hT : Tab w) (hn : ps.length ≤ 140737488355328) (hl : ∀ p ∈ ps, p.length ≤ 140737488355328) :
    Calls Tryd.prog 69 #[.slice A ps.length c] w fun e w' => e = .returned (.int .u32 (crc ps.flatten : Nat)) ∧ w = w' := by
  have HL := Hd.mk hl
  clear hl
  have HT := Hd.mk hT
  clear hT
  go_enter Tryd.func69, Tryd.ntmps69
  go_wp2_with fail
  go_loop [3, 10] (fun c i => ∃ k r : Nat, k ≤ ps.length ∧ i = .int .i64 k ∧ c = .int .u32 r ∧ Hd (r < 4294967296 ∧ craw 4294967295 ps.flatten = craw r (ps.drop k).flatten)) (fun _ i => ps.length - (intOf i).toNat)
  case atStart => exact ⟨0, 4294967295, by omega, rfl, rfl, ⟨by omega, rfl⟩⟩
  case round =>
    obtain ⟨k, r, hk, rfl, rfl, H⟩ := hrel
    by_cases hlt : k < ps.length
    · obtain ⟨b, off, Ak, ck, rfl, hb, hc, hp⟩ := hr k hlt
      have HL2 : (ps[k]).length ≤ 140737488355328 := HL.out _ (List.getElem_mem hlt)
      have HD : Hd (craw 4294967295 ps.flatten = craw r (ps[k] ++ (ps.drop (k + 1)).flatten)) := ⟨by rw [H.out.2, List.drop_eq_getElem_cons hlt]; rfl⟩
      have Hr := Hd.mk H.out.1
      clear hr H
      generalize ps[k] = p at *
      go_wp2_with fail
      go_loop [3, 16] (fun c i => ∃ j r1 : Nat, j ≤ p.length ∧ i = .int .i64 j ∧ c = .int .u32 r1 ∧ Hd (r1 < 4294967296 ∧ craw r p = craw r1 (p.drop j))) (fun _ i => p.length - (intOf i).toNat)
      case atStart => exact ⟨0, r, by omega, rfl, rfl, ⟨Hr.out, rfl⟩⟩
      case round =>
        obtain ⟨j, r1, hj, rfl, rfl, H1⟩ := hrel
        by_cases hjl : j < p.length
        · obtain ⟨b2, off2, rfl, hb2, hc2⟩ := hp.at_ (bv_get p _ hjl)
          have HD1 : Hd (craw r p = craw (cbyte r1 (p[j])) (p.drop (j + 1))) := ⟨by rw [H1.out.2, List.drop_eq_getElem_cons hjl]; rfl⟩
          have hr1 := H1.out.1
          have hx := (p[j]).toNat_lt
          have hx1 := cxor_lt hr1 (p[j])
          have hx2 := cfour_lt hx1
          have HF : Hd (cbyte r1 (p[j]) = cfour (cfour (r1 ^^^ (p[j]).toNat)) ∧ cbyte r1 (p[j]) < 4294967296) := ⟨rfl, cbyte_lt hr1 _⟩
          have HF1 := Hd.mk (cfour_tbl (r1 ^^^ (p[j]).toNat))
          have HF2 := Hd.mk (cfour_tbl (cfour (r1 ^^^ (p[j]).toNat)))
          have e1 := xor_u32 r1 _ hr1 (show (p[j]).toNat < 4294967296 by omega)
          generalize r1 ^^^ (p[j]).toNat = r2 at *
          have e2 := and15_u32 r2 hx1
          have hc3 := HT.out (r2 % 16) (by omega)
          have ht3 := tbl_lt ⟨r2 % 16, by omega⟩
          have e3 := xor_u32 (tbl.getD (r2 % 16) 0) (r2 / 16) ht3 (by omega)
          rw [HF1.out, show ((r2 / 16 : Nat) : Int) = (r2 : Int) / 16 from by omega] at e3
          generalize cfour r2 = r3 at *
          have e4 := and15_u32 r3 hx2
          have hc4 := HT.out (r3 % 16) (by omega)
          have ht4 := tbl_lt ⟨r3 % 16, by omega⟩
          have e5 := xor_u32 (tbl.getD (r3 % 16) 0) (r3 / 16) ht4 (by omega)
          rw [HF2.out, show ((r3 / 16 : Nat) : Int) = (r3 : Int) / 16 from by omega] at e5
          generalize cfour r3 = r4 at *
          have hi3 : r2 % 16 < 16 := by omega
          have hi4 : r3 % 16 < 16 := by omega
          clear HF1 HF2 H1 HD ht3 ht4
          generalize tbl.getD (r2 % 16) 0 = t3 at *
          generalize tbl.getD (r3 % 16) 0 = t4 at *
          generalize r2 % 16 = i3 at *
          generalize r3 % 16 = i4 at *
          generalize p[j] = x at *
          go_wp2_with fail
          go_round
          case rel => exact ⟨j + 1, r4, by omega, by go_num, rfl, ⟨by rw [← HF.out.1]; exact HF.out.2, by rw [HD1.out, HF.out.1]⟩⟩
          case measure => simp [intOf]; omega
        · have HX := Hd.mk (show craw r p = r1 by rw [H1.out.2, List.drop_of_length_le (by omega)]; rfl)
          go_wp2_with fail
          go_round
          case rel => exact ⟨k + 1, r1, by omega, by go_num, rfl, ⟨H1.out.1, by rw [HD.out, craw_app, HX.out]⟩⟩
          case measure => simp [intOf]; omega
    · have HX := Hd.mk (show craw 4294967295 ps.flatten = r by rw [H.out.2, List.drop_of_length_le (by omega)]; rfl)
      go_wp2_with fail
      go_ret
      exact ⟨congrArg (fun x => Ending.returned (.int .u32 x)) ((not_u32 r H.out.1).trans (by rw [crc, HX.out])), rfl⟩

theorem u8z : (Tryd.prog.info? 5).map (fun i => i.zero) = some (some (.int .u8 0)) := by kernel_rfl

set_option maxRecDepth 100000 in
set_option maxHeartbeats 400000 in
theorem piece_ok (A : Option Addr) (c B : Nat) (l : List UInt8) (f t : Int) (w : World) (hr : Rd w B A (bv l)) (hc : l.length ≤ c) (hl : l.length ≤ 140737488355328) (h0 : 0 ≤ f) (h1 : f ≤ t) (h2 : t ≤ l.length) :
    Calls Tryd.prog 73 #[.slice A l.length c, .int .i64 f, .int .i64 t] w fun e w' => ∃ A' c', e = .returned (.slice A' ((l.drop f.toNat).take (t.toNat - f.toNat)).length c') ∧ FB 5 w.heap.size w' A' c' ((l.drop f.toNat).take (t.toNat - f.toNat)) ∧ Below w.heap.size w w' := by
  obtain ⟨f, rfl⟩ := Int.eq_ofNat_of_zero_le h0
  obtain ⟨n, rfl⟩ : ∃ n : Nat, t = (f : Int) + n := ⟨(t - f).toNat, by omega⟩
  have hmk : ∀ W, (Instr.makeSlice 30 (.int .i64 ((f : Int) + n - f)) (.int .i64 ((f : Int) + n - f))).run Tryd.prog W = .ok (.slice (some ⟨W.heap.size, 0, none⟩) n n) (W.alloc (.cells (madeCells #[.int .u8 0] n) 5)) := by
    intro W
    have h := Tb.run_make (.int .u8 0) u8z rfl .i64 .i64 ((f : Int) + n - f) ((f : Int) + n - f) (by omega) (by omega) (by omega) (by omega) W
    rw [show ((f : Int) + n - f).toNat = n from by omega] at h
    exact h
  go_enter Tryd.func73, Tryd.ntmps73
  have hn : f + n ≤ l.length := by omega
  have hvs : ((l.drop f).take n).length = n := by simp; omega
  have hcut := hr.cut f 1 l.length c (f + n) hc (by omega) hn (by rw [bv_len]; omega)
  rw [show (f + n - f) * 1 = n from by omega, show f * 1 = f from by omega, show ((bv l).drop f).take n = bv ((l.drop f).take n) from by simp [bv]] at hcut
  have hb1 := bv_one ((l.drop f).take n)
  have HV := Hd.mk hvs
  have HC := Hd.mk hcut
  clear hr hcut
  rw [Int.toNat_natCast, show ((f : Int) + n).toNat - f = n from by omega]
  generalize (l.drop f).take n = r at *
  have HV1 := Hd.mk hvs
  clear hvs
  go_wp2_with ((with_reducible show wpList _ _ _ (Oper.mk (some 17) _ _ _ _ _ :: _) _ _); (refine cp_fresh Tb (.tmp 12) (.tmp 16) rfl rfl _ n _ _ B w.heap.size _ (bv r) (by simp [size_madeCells]) (by rw [bv_len]; exact HV1.out) rfl rfl (by omega) (by exact HC.out) hb1 (by simp only [maxLen]; omega) (Nat.le_refl _) ?_); intro w1 ho1 hb1)
  all_goals
    go_ret
    obtain rfl := HV1.out
    exact ⟨_, _, rfl, FBmk ho1 rfl rfl, hb1⟩

/-- two places as Go hands them back -/
def retB : Except Int (Nat × Nat) → Value
  | .ok (f, t) => .tuple #[.int .i64 f, .int .i64 t, .int .i64 0]
  | .error e => .tuple #[.int .i64 0, .int .i64 0, .int .i64 e]
theorem retB_ok {r : Except Int (Nat × Nat)} {v p : Nat} {x y : Int} (h : r = .ok (v, p)) (hx : x = v) (hy : y = p) : Ending.returned (.tuple #[.int .i64 x, .int .i64 y, .int .i64 0]) = .returned (retB r) := by
  rw [h, hx, hy]; rfl
theorem retB_err {r : Except Int (Nat × Nat)} {e : Int} (h : r = .error e) : Ending.returned (.tuple #[.int .i64 0, .int .i64 0, .int .i64 e]) = .returned (retB r) := by rw [h]; rfl

theorem rdu_err (l : List UInt8) : ∀ (i acc : Nat) (e : Int), rdu l i acc = .error e → e ≠ 0 := by
  induction l with
  | nil => intro i acc e h; simp [rdu] at h; omega
  | cons c r ih =>
    intro i acc e h
    rw [rdu] at h
    split at h
    · injection h; omega
    split at h
    · exact ih _ _ _ h
    split at h
    · injection h; omega
    · cases h
theorem readU_err {l : List UInt8} {at_ : Nat} {e : Int} (h : readU l at_ = .error e) : e ≠ 0 := by
  unfold readU at h
  split at h
  · injection h; omega
  · cases hr : rdu (l.drop at_) 0 0 with
    | error e' => rw [hr] at h; simp only [Except.map] at h; injection h with h; subst h; exact rdu_err _ _ _ _ hr
    | ok x => rw [hr] at h; cases h

theorem rdBounds_of {l : List UInt8} {at_ n p : Nat} (h : readU l at_ = .ok (n, p)) : rdBounds l at_ = if n = 0 then .error 14 else if 1048576 < n then .error 13 else if l.length < p + n + 5 then .error 10
    else if (l.getD (p + n + 4) 0).toNat ≠ 165 then .error 15 else .ok (p, p + n) := by unfold rdBounds; rw [h]

set_option maxRecDepth 100000 in
set_option maxHeartbeats 1000000 in
theorem bounds_ok (A : Option Addr) (c B : Nat) (l : List UInt8) (at_ : Nat) (w : World) (hr : Rd w B A (bv l)) (hl : l.length ≤ 140737488355328) (hat : at_ ≤ 9223372036854775807) :
    Calls Tryd.prog 72 #[.slice A l.length c, .int .i64 at_] w fun e w' => e = .returned (retB (rdBounds l at_)) ∧ w = w' := by
  have hc := readUint_ok A c B l at_ w hr hl hat
  cases hu : readU l at_ with
  | error e =>
    have he : (e != 0) = true := bne_iff_ne.2 (readU_err hu)
    have HB : Hd (rdBounds l at_ = .error e) := ⟨by unfold rdBounds; rw [hu]⟩
    rw [hu] at hc
    have HC := Hd.mk hc
    have HU := Hd.mk hu
    clear hc hr hu
    go_enter Tryd.func72, Tryd.ntmps72
    go_wp2_with (go_at_call 74; refine HC.out.mono ?_; rintro e w' ⟨rfl, rfl⟩; simp only [retU])
    go_ret3
    exact ⟨retB_err HB.out, rfl⟩
  | ok x =>
    obtain ⟨n, p⟩ := x
    obtain ⟨k1, k2, k3, k4⟩ := readU_ok hu
    have HB := Hd.mk (rdBounds_of hu)
    rw [hu] at hc
    have HC := Hd.mk hc
    have K3 := Hd.mk k3
    clear hc hu k3
    by_cases h0 : n = 0
    · have hn0 : ((n : Int) == 0) = true := by simpa using h0
      go_enter Tryd.func72, Tryd.ntmps72
      go_wp2_with (go_at_call 74; refine HC.out.mono ?_; rintro e w' ⟨rfl, rfl⟩; simp only [retU])
      go_ret3
      exact ⟨retB_err (by rw [HB.out, if_pos h0]), rfl⟩
    have hn0 : ((n : Int) == 0) = false := by simpa using h0
    by_cases h3 : l.length < p + n + 5
    · go_enter Tryd.func72, Tryd.ntmps72
      go_wp2_with (go_at_call 74; refine HC.out.mono ?_; rintro e w' ⟨rfl, rfl⟩; simp only [retU])
      · go_ret3
        exact ⟨retB_err (by rw [HB.out, if_neg h0, if_pos (by omega)]), rfl⟩
      · go_ret3
        exact ⟨retB_err (by rw [HB.out, if_neg h0, if_neg (by omega), if_pos h3]), rfl⟩
    · obtain ⟨b, off, rfl, hbB, hcell⟩ := hr.at_ (bv_get l (p + n + 4) (by omega))
      have hg : l.getD (p + n + 4) 0 = l[p + n + 4] := by rw [List.getD_eq_getElem?_getD, List.getElem?_eq_getElem (by omega)]; rfl
      rw [hg] at HB
      clear hr hg
      generalize l[p + n + 4] = x at *
      go_enter Tryd.func72, Tryd.ntmps72
      go_wp2_with (go_at_call 74; refine HC.out.mono ?_; rintro e w' ⟨rfl, rfl⟩; simp only [retU])
      · go_ret3
        exact ⟨retB_err (by rw [HB.out, if_neg h0, if_pos (by omega)]), rfl⟩
      · go_ret3
        have hx : ((x.toNat : Int) != 165) = true := by assumption
        exact ⟨retB_err (by rw [HB.out, if_neg h0, if_neg (by omega), if_neg h3, if_pos (by have := bne_iff_ne.1 hx; omega)]), rfl⟩
      · go_ret3
        have hx : ((x.toNat : Int) != 165) = false := by assumption
        exact ⟨retB_ok (by rw [HB.out, if_neg h0, if_neg (by omega), if_neg h3, if_neg (by have := bne_eq_false_iff_eq.1 hx; omega)]) rfl (by omega), rfl⟩
end Go.Proofs.YtamodllgeabpoaaDoor
