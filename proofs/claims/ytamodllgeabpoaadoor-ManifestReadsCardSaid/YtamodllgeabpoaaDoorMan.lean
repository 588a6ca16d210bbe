/- Contracts: Check of a manifest, the program's and the reference's. -/
import Derived.Test.YtamodllgeabpoaaDoorRefB
import Derived.Test.YtamodllgeabpoaaDoorSpecC
namespace Go.Proofs.YtamodllgeabpoaaDoor
open Go.RowKit

/-- a segment's cells; a list's -/
def sv (s : Sg) : List Value := [.int .i64 s.num, .int .i64 s.size, .int .i64 s.count]
def svs (l : List Sg) : List Value := l.flatMap sv
theorem svs_len (l : List Sg) : (svs l).length = l.length * 3 := by
  induction l with
  | nil => rfl
  | cons s r ih => simp only [svs, List.flatMap_cons, List.length_append, List.length_cons] at *; rw [ih]; simp [sv]; omega
theorem svs_app (a b : List Sg) : svs (a ++ b) = svs a ++ svs b := by simp [svs]
theorem svs_one (l : List Sg) : ∀ u ∈ svs l, u.oneCell' = true := by
  intro u hu
  simp only [svs, List.mem_flatMap] at hu
  obtain ⟨s, _, hs⟩ := hu
  simp only [sv, List.mem_cons, List.not_mem_nil, or_false] at hs
  rcases hs with rfl | rfl | rfl <;> rfl
theorem svs_get (l : List Sg) (k : Nat) (h : k < l.length) (j : Nat) (hj : j < 3) : (svs l)[k * 3 + j]? = (sv (l[k]))[j]? := by
  induction l generalizing k with
  | nil => simp at h
  | cons s r ih =>
    cases k with
    | zero => simp only [svs, List.flatMap_cons]; rw [List.getElem?_append_left (by simp [sv]; omega)]; simp
    | succ k =>
      have h' : k < r.length := by simp at h; omega
      simp only [svs, List.flatMap_cons]
      rw [List.getElem?_append_right (by simp [sv]; omega), show (k + 1) * 3 + j - (sv s).length = k * 3 + j from by simp [sv]; omega]
      exact ih k h'
theorem Rd.seg {w : World} {B : Nat} {A : Option Addr} {l : List Sg} (h : Rd w B A (svs l)) {k : Nat} (hk : k < l.length) :
    ∃ b off, A = some ⟨b, off, none⟩ ∧ b < B ∧ w.cell? ⟨b, off + k * 3, none⟩ = some (.int .i64 (l[k]).num) ∧ w.cell? ⟨b, off + k * 3 + 1, none⟩ = some (.int .i64 (l[k]).size) ∧ w.cell? ⟨b, off + k * 3 + 2, none⟩ = some (.int .i64 (l[k]).count) := by
  obtain ⟨b, off, e, hb, hc⟩ := h (by rw [svs_len]; omega)
  refine ⟨b, off, e, hb, ?_, ?_, ?_⟩
  · exact hc (k * 3) _ ((svs_get l k hk 0 (by omega)).trans rfl)
  · exact hc (k * 3 + 1) _ ((svs_get l k hk 1 (by omega)).trans rfl)
  · exact hc (k * 3 + 2) _ ((svs_get l k hk 2 (by omega)).trans rfl)
/-- a manifest as Go holds it -/
abbrev mval (m : Mf) (A : Option Addr) (c : Nat) : Value := .agg #[.int .i64 m.gen, .int .i64 m.v, .int .i64 m.next, .int .i64 m.top, .slice A m.segs.length c]
theorem Tsg : SlT Tryd.prog 22 45 3 24 := ⟨Tryd.underlying22, by kernel_rfl⟩

theorem ret_i {a b : Int} (h : a = b) : Ending.returned (.int .i64 a) = .returned (.int .i64 b) := by rw [h]
theorem endOk_last {s : Sg} : endOk true s = (decide (s.size = 0) && decide (s.count = 0)) := rfl
theorem endOk_more {s : Sg} : endOk false s = (decide (1 ≤ s.size) && decide (s.size ≤ 524288) && decide (0 ≤ s.count) && decide (s.count ≤ 524288)) := rfl

set_option maxRecDepth 100000 in
set_option maxHeartbeats 2000000 in
theorem check_ok (m : Mf) (A : Option Addr) (c : Nat) (w : World) (hr : Rd w w.heap.size A (svs m.segs)) (hl : m.segs.length ≤ 1000000000000) :
    Calls Tryd.prog 9 #[mval m A c] w fun e w' => e = .returned (.int .i64 (chkM m)) ∧ Below w.heap.size w w' := by
  obtain ⟨g, v, n, t, segs⟩ := m
  dsimp only at hr hl
  have HC := Hd.mk (show chkM ⟨g, v, n, t, segs⟩ = _ from rfl)
  unfold chkM at HC
  dsimp only at HC
  have hb0 : Below w.heap.size w (w.alloc (.cells #[.int .i64 g, .int .i64 v, .int .i64 n, .int .i64 t, .slice A segs.length c] 24)) := (Below.refl _ _).alloc (Nat.le_refl _) _
  go_enter Tryd.func9, Tryd.ntmps9
  go_wp2_with fail
  all_goals try (go_ret; exact ⟨ret_i (by show _ = chkM _; unfold chkM; dsimp only; first | rw [if_pos (by omega)] | rw [if_neg (by omega), if_pos (by omega)] | rw [if_neg (by omega), if_neg (by omega), if_pos (by omega)] | rw [if_neg (by omega), if_neg (by omega), if_neg (by omega), if_pos (by omega)] | rw [if_neg (by omega), if_neg (by omega), if_neg (by omega), if_neg (by omega), if_pos (by omega)]), hb0⟩)
  have HK := Hd.mk (show chkM ⟨g, v, n, t, segs⟩ = if segsOk n 0 segs then 0 else 83 by unfold chkM; dsimp only; rw [if_neg (by omega), if_neg (by omega), if_neg (by omega), if_neg (by omega), if_neg (by omega)])
  clear HC
  go_loopw [3, 51] (fun last x wr => ∃ k : Nat, k ≤ segs.length ∧ x = .int .i64 k ∧ last = .int .i64 (lastOf segs k) ∧ Below w.heap.size w wr ∧ w.heap.size < wr.heap.size ∧ wr.cell? ⟨w.heap.size, 2, none⟩ = some (.int .i64 n) ∧ wr.cell? ⟨w.heap.size, 4, none⟩ = some (.slice A segs.length c) ∧ Hd (segsOk n 0 segs = segsOk n (lastOf segs k) (segs.drop k)))
    (fun _ x _ => segs.length - (intOf x).toNat)
  case atStart => exact ⟨0, Nat.zero_le _, rfl, rfl, hb0, by simp, by go_simp, by go_simp, ⟨rfl⟩⟩
  case round =>
    obtain ⟨k, hk, rfl, rfl, hb, hs, hn, hsl, H⟩ := hrel
    by_cases hlt : k < segs.length
    · obtain ⟨b, off, rfl, hab, c0, c1, c2⟩ := (hr.below hb (Nat.le_refl _)).seg hlt
      have HD := Hd.mk (segsOk_drop (next := n) (last := lastOf segs k) hlt)
      have HL := Hd.mk (show lastOf segs (k + 1) = (segs[k]).num by simp [lastOf, hlt])
      obtain ⟨q, hq⟩ : ∃ q : Bool, ((k : Int) == (segs.length : Int) - 1) = q := ⟨_, rfl⟩
      have HQ := Hd.mk (show decide (k + 1 = segs.length) = q by rw [← hq, Bool.eq_iff_iff]; simp; omega)
      clear hr
      generalize segs[k] = s at *
      obtain ⟨num, size, count⟩ := s
      generalize lastOf segs k = l at *
      dsimp only at c0 c1 c2
      go_wp2_with fail
      case roundEnd =>
        go_roundw
        case rel =>
          refine ⟨k + 1, by omega, by go_num, by rw [HL.out], hb.alloc (by omega) _, by simp; omega, by go_simp, by go_simp, ⟨?_⟩⟩
          rw [H.out, HD.out, HQ.out, HL.out]
          have hc : (count != 0) = false := by assumption
          rw [show q = true from by assumption, endOk_last]
          have := bne_eq_false_iff_eq.1 hc
          simp; omega
        case measure => simp [intOf]; omega
      case roundEnd =>
        go_roundw
        case rel =>
          refine ⟨k + 1, by omega, by go_num, by rw [HL.out], hb.alloc (by omega) _, by simp; omega, by go_simp, by go_simp, ⟨?_⟩⟩
          rw [H.out, HD.out, HQ.out, HL.out, show q = false from by assumption, endOk_more]
          simp; omega
        case measure => simp [intOf]; omega
      all_goals
        go_ret
        refine ⟨ret_i ?_, hb.alloc (by omega) _⟩
        rw [HK.out, if_neg]
        rw [H.out, HD.out, HQ.out]
        intro hh
        simp only [Bool.and_eq_true, decide_eq_true_eq] at hh
        obtain ⟨⟨⟨a1, a2⟩, a3⟩, _⟩ := hh
        first
          | omega
          | (rw [show q = true from by assumption, endOk_last] at a3; simp at a3; first | omega | (have hc : (count != 0) = true := (by assumption); have := bne_iff_ne.1 hc; omega))
          | (rw [show q = false from by assumption, endOk_more] at a3; simp at a3; omega)
    · have HX := Hd.mk (show segsOk n 0 segs = true by rw [H.out, List.drop_of_length_le (by omega)]; rfl)
      go_wp2_with fail
      go_ret
      exact ⟨ret_i (by rw [HK.out, if_pos HX.out]), hb⟩
end Go.Proofs.YtamodllgeabpoaaDoor
