/- Contracts: the reference's Check of a manifest. -/
import Derived.Test.YtamodllgeabpoaaDoorMan
namespace Go.Proofs.YtamodllgeabpoaaDoor
open Go.RowKit

theorem ret_b {a b : Bool} (h : a = b) : Ending.returned (.bool a) = .returned (.bool b) := by rw [h]

set_option maxRecDepth 100000 in
set_option maxHeartbeats 2000000 in
theorem seg_ok (m : Mf) (A : Option Addr) (c k : Nat) (w : World) (hr : Rd w w.heap.size A (svs m.segs)) (hl : m.segs.length ≤ 1000000000000) (hk : k < m.segs.length) :
    Calls Tryd.prog 37 #[mval m A c, .int .i64 k] w fun e w' => e = .returned (.bool (segB m.next m.segs k)) ∧ Below w.heap.size w w' := by
  obtain ⟨g, v, n, t, segs⟩ := m
  dsimp only at hr hl hk ⊢
  obtain ⟨b, off, rfl, hab, c0, c1, c2⟩ := hr.seg hk
  have HS := Hd.mk (show segB n segs k = (decide (1 ≤ (segs[k]).num) && decide ((segs[k]).num < n) && (if 0 < k then decide (((segs[k - 1]?).map (·.num)).getD 0 < (segs[k]).num) else true) && endOk (decide (k + 1 = segs.length)) (segs[k])) by
    unfold segB; rw [List.getElem?_eq_getElem hk])
  obtain ⟨q, hq⟩ : ∃ q : Bool, ((k : Int) == (segs.length : Int) - 1) = q := ⟨_, rfl⟩
  have HQ := Hd.mk (show decide (k + 1 = segs.length) = q by rw [← hq, Bool.eq_iff_iff]; simp; omega)
  have hb0 : Below w.heap.size w (w.alloc (.cells #[.int .i64 g, .int .i64 v, .int .i64 n, .int .i64 t, .slice (some ⟨b, off, none⟩) segs.length c] 24)) := (Below.refl _ _).alloc (Nat.le_refl _) _
  have HB := Hd.mk (hb0.alloc (by simp) (.cells #[.int .i64 (segs[k]).num, .int .i64 (segs[k]).size, .int .i64 (segs[k]).count] 45))
  clear hb0
  by_cases h0 : 0 < k
  · obtain ⟨b', off', e, _, p0, _, _⟩ := hr.seg (show k - 1 < segs.length by omega)
    obtain ⟨rfl, rfl⟩ : b = b' ∧ off = off' := by simpa using e
    rw [if_pos h0, List.getElem?_eq_getElem (show k - 1 < segs.length by omega)] at HS
    simp only [Option.map_some, Option.getD_some] at HS
    clear hr e
    generalize segs[k - 1] = p at *
    generalize segs[k] = s at *
    obtain ⟨num, size, count⟩ := s
    obtain ⟨pn, ps, pc⟩ := p
    dsimp only at c0 c1 c2 p0 HB
    have i1 : (0 : Int) ≤ (k : Int) - 1 ∧ (k : Int) - 1 < segs.length := by omega
    have hg : decide ((0 : Int) < (k : Int)) = true := decide_eq_true (by omega)
    have hg2 : decide (0 < k) = true := decide_eq_true h0
    go_enter Tryd.func37, Tryd.ntmps37
    go_wp2_with fail
    all_goals try (go_quiet (fail); go_wp2_with fail)
    all_goals
      go_ret
      refine ⟨ret_b ?_, by first | exact HB.out | exact below_drewN (((Below.refl _ _).alloc (Nat.le_refl _) _).alloc (by simp) _) _ | exact ((Below.refl _ _).alloc (Nat.le_refl _) _).alloc (by simp) _⟩
      rw [HS.out, HQ.out, Bool.eq_iff_iff]
      first
        | (rw [show q = true from by assumption]; simp [endOk]; omega)
        | (rw [show q = false from by assumption]; simp [endOk]; omega)
        | (simp; intros; omega)
  · rw [if_neg h0] at HS
    clear hr
    generalize segs[k] = s at *
    obtain ⟨num, size, count⟩ := s
    dsimp only at c0 c1 c2 HB
    have hg : decide ((0 : Int) < (k : Int)) = false := decide_eq_false (by omega)
    have hg2 : decide (0 < k) = false := decide_eq_false h0
    go_enter Tryd.func37, Tryd.ntmps37
    go_wp2_with fail
    all_goals try (go_quiet (fail); go_wp2_with fail)
    all_goals
      go_ret
      refine ⟨ret_b ?_, by first | exact HB.out | exact below_drewN (((Below.refl _ _).alloc (Nat.le_refl _) _).alloc (by simp) _) _ | exact ((Below.refl _ _).alloc (Nat.le_refl _) _).alloc (by simp) _⟩
      rw [HS.out, HQ.out, Bool.eq_iff_iff]
      first
        | (rw [show q = true from by assumption]; simp [endOk]; omega)
        | (rw [show q = false from by assumption]; simp [endOk]; omega)
        | (simp; intros; omega)

set_option maxRecDepth 100000 in
set_option maxHeartbeats 2000000 in
theorem refCheck_ok (m : Mf) (A : Option Addr) (c : Nat) (w : World) (hr : Rd w w.heap.size A (svs m.segs)) (hl : m.segs.length ≤ 1000000000000) :
    Calls Tryd.prog 11 #[mval m A c] w fun e w' => e = .returned (.int .i64 (chkM m)) ∧ Below w.heap.size w w' := by
  obtain ⟨g, v, n, t, segs⟩ := m
  dsimp only at hr hl
  have hb0 : Below w.heap.size w (w.alloc (.cells #[.int .i64 g, .int .i64 v, .int .i64 n, .int .i64 t, .slice A segs.length c] 24)) := (Below.refl _ _).alloc (Nat.le_refl _) _
  obtain ⟨z, hz⟩ : ∃ z : Bool, ((segs.length : Int) == 0) = z := ⟨_, rfl⟩
  have HZ := Hd.mk (show decide (segs.length = 0) = z by rw [← hz, Bool.eq_iff_iff]; simp)
  have HZ1 := Hd.mk (show z = true → segs.length = 0 from fun h => by have := HZ.out; rw [h] at this; simpa using this)
  have HZ2 := Hd.mk (show ¬ z = true → ¬ segs.length = 0 from fun h => by have := HZ.out; rw [show z = false by simpa using h] at this; simpa using this)
  go_enter Tryd.func11, Tryd.ntmps11
  go_wp2_with fail
  all_goals try (go_ret; exact ⟨ret_i (by show _ = chkM _; unfold chkM; dsimp only; first | rw [if_pos (by omega)] | rw [if_neg (by omega), if_pos (by omega)] | rw [if_neg (by omega), if_neg (by omega), if_pos (by omega)] | rw [if_neg (by omega), if_neg (by omega), if_neg (by omega), if_pos (by omega)] | (have hq := HZ1.out (by assumption); rw [if_neg (by omega), if_neg (by omega), if_neg (by omega), if_neg (by omega), if_pos (by omega)]) | rw [if_neg (by omega), if_neg (by omega), if_neg (by omega), if_neg (by omega), if_pos (by omega)]), hb0⟩)
  have hq := HZ2.out (by assumption)
  have HK := Hd.mk (show chkM ⟨g, v, n, t, segs⟩ = if segsOk n 0 segs then 0 else 83 by unfold chkM; dsimp only; rw [if_neg (by omega), if_neg (by omega), if_neg (by omega), if_neg (by omega), if_neg (by omega)])
  clear hq
  go_loopw [3] (fun x wr => ∃ k : Nat, k ≤ segs.length ∧ x = .int .i64 k ∧ Below w.heap.size w wr ∧ w.heap.size < wr.heap.size ∧ wr.cell? ⟨w.heap.size, 0, none⟩ = some (.int .i64 g) ∧ wr.cell? ⟨w.heap.size, 1, none⟩ = some (.int .i64 v) ∧ wr.cell? ⟨w.heap.size, 2, none⟩ = some (.int .i64 n) ∧ wr.cell? ⟨w.heap.size, 3, none⟩ = some (.int .i64 t) ∧ wr.cell? ⟨w.heap.size, 4, none⟩ = some (.slice A segs.length c) ∧ Hd (segsOk n 0 segs = segsOk n (lastOf segs k) (segs.drop k) ∧ 0 ≤ lastOf segs k))
    (fun x _ => segs.length - (intOf x).toNat)
  case atStart => exact ⟨0, Nat.zero_le _, rfl, hb0, by simp, by go_simp, by go_simp, by go_simp, by go_simp, by go_simp, ⟨rfl, by simp [lastOf]⟩⟩
  case round =>
    obtain ⟨k, hk, rfl, hb, hs, d0, d1, d2, d3, d4, H⟩ := hrel
    by_cases hlt : k < segs.length
    · have HS := Hd.mk (segB_step (next := n) hlt H.out.2)
      have HP := Hd.mk (fun h => segB_pos (next := n) (l := segs) (k := k) h)
      have HC := Hd.mk (seg_ok ⟨g, v, n, t, segs⟩ A c k wr ((hr.below hb (Nat.le_refl _)).more hb.size) hl hlt)
      obtain ⟨q, hq⟩ : ∃ q, q = segB n segs k := ⟨_, rfl⟩
      dsimp only at HC
      rw [← hq] at HC HS HP
      clear hq
      go_wp2_with (go_at_call 37; refine HC.out.mono ?_; rintro e w1 ⟨rfl, hb1⟩)
      have hbw : Below w.heap.size w w1 := hb.trans (hb1.mono hb.size)
      · have hq : q = false := by have h : (!q) = true := (by assumption); simpa using h
        go_ret
        exact ⟨ret_i (by rw [HK.out, if_neg (by rw [H.out.1, HS.out, hq]; simp)]), hbw⟩
      · have hq : q = true := by have h : (!q) = false := (by assumption); simpa using h
        have hbw : Below w.heap.size w w1 := hb.trans (hb1.mono hb.size)
        have hs1 := hb1.size
        go_roundw
        case rel => exact ⟨k + 1, by omega, by go_num, hbw, by omega, (hb1.cell hs).trans d0, (hb1.cell hs).trans d1, (hb1.cell hs).trans d2, (hb1.cell hs).trans d3, (hb1.cell hs).trans d4, ⟨by rw [H.out.1, HS.out, hq]; simp, HP.out hq⟩⟩
        case measure => simp [intOf]; omega
    · have HX := Hd.mk (show segsOk n 0 segs = true by rw [H.out.1, List.drop_of_length_le (by omega)]; rfl)
      go_wp2_with fail
      go_ret
      exact ⟨ret_i (by rw [HK.out, if_pos HX.out]), hb⟩
end Go.Proofs.YtamodllgeabpoaaDoor
