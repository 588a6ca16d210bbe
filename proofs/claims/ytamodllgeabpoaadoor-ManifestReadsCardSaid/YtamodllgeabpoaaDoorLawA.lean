/- Contracts: the small helpers of the manifest laws. -/
import Derived.Test.YtamodllgeabpoaaDoorManJ
import Derived.Test.YtamodllgeabpoaaDoorSpecE
namespace Go.Proofs.YtamodllgeabpoaaDoor
open Go.RowKit

set_option maxRecDepth 100000 in
set_option maxHeartbeats 2000000 in
theorem all_ok (A : Option Addr) (c B : Nat) (l : List UInt8) (x : UInt8) (w : World) (hr : Rd w B A (bv l)) (hl : l.length ≤ 140737488355328) (hx : ∀ y ∈ l, y = x) :
    Calls Tryd.prog 18 #[.slice A l.length c, .int .u8 (x.toNat : Int)] w fun e w' => e = .returned (.bool true) ∧ w = w' := by
  have HR := Hd.mk hr
  have HX := Hd.mk hx
  clear hr hx
  go_enter Tryd.func18, Tryd.ntmps18
  go_wp2_with fail
  go_loop [5] (fun i => ∃ k : Nat, k ≤ l.length ∧ i = .int .i64 k) (fun i => l.length - (intOf i).toNat)
  case atStart => exact ⟨0, by omega, rfl⟩
  case round =>
    obtain ⟨k, hk, rfl⟩ := hrel
    by_cases hlt : k < l.length
    · obtain ⟨b, off, rfl, hb, hcell⟩ := HR.out.at_ (bv_get l k hlt)
      have hy : l[k] = x := HX.out _ (List.getElem_mem hlt)
      rw [hy] at hcell
      have hn : ((x.toNat : Int) != (x.toNat : Int)) = false := by simp
      clear hy
      go_wp2_with fail
      go_round
      case rel => exact ⟨k + 1, by omega, by go_num⟩
      case measure => simp [intOf]; omega
    · go_wp2_with fail
      go_ret
      exact ⟨rfl, rfl⟩

set_option maxRecDepth 100000 in
set_option maxHeartbeats 2000000 in
theorem sameBytes_ok (A A' : Option Addr) (c c' B B' : Nat) (l : List UInt8) (w : World) (hr : Rd w B A (bv l)) (hr' : Rd w B' A' (bv l)) (hl : l.length ≤ 140737488355328) :
    Calls Tryd.prog 16 #[.slice A l.length c, .slice A' l.length c'] w fun e w' => e = .returned (.bool true) ∧ ∃ n, w' = w.drewN n := by
  have HR := Hd.mk hr
  have HR' := Hd.mk hr'
  have hne : ((l.length : Int) != (l.length : Int)) = false := by simp
  clear hr hr'
  go_enter Tryd.func16, Tryd.ntmps16
  go_wp2_with fail
  go_loopw [5] (fun i wr => ∃ (k n : Nat), k ≤ l.length ∧ i = .int .i64 k ∧ wr = w.drewN n) (fun i _ => l.length - (intOf i).toNat)
  case atStart => exact ⟨0, 0, by omega, rfl, rfl⟩
  case round =>
    obtain ⟨k, n, hk, rfl, rfl⟩ := hrel
    by_cases hlt : k < l.length
    · obtain ⟨b, off, rfl, hb, hcell⟩ := HR.out.at_ (bv_get l k hlt)
      obtain ⟨b', off', rfl, hb', hcell'⟩ := HR'.out.at_ (bv_get l k hlt)
      generalize l[k] = x at *
      have hn : ((x.toNat : Int) != (x.toNat : Int)) = false := by simp
      have i1 : (0 : Int) ≤ (k : Int) ∧ (k : Int) < l.length := by omega
      go_wp2_with fail
      go_quiet (fail)
      go_wp2_with fail
      go_roundw
      case rel => exact ⟨k + 1, _, by omega, by go_num, rfl⟩
      case measure => simp [intOf]; omega
    · go_wp2_with fail
      go_ret
      exact ⟨rfl, _, rfl⟩

set_option maxRecDepth 100000 in
set_option maxHeartbeats 2000000 in
theorem same_law (m : Mf) (A A' : Option Addr) (c c' : Nat) (w : World) (hr : Rd w w.heap.size A (svs m.segs)) (hr' : Rd w w.heap.size A' (svs m.segs)) (hl : m.segs.length ≤ 1000000000000) :
    Calls Tryd.prog 20 #[mval m A c, mval m A' c'] w fun e w' => e = .returned (.bool true) ∧ Below w.heap.size w w' := by
  obtain ⟨g, v, n, t, segs⟩ := m
  dsimp only at hr hr' hl ⊢
  have hb0 : Below w.heap.size w ((w.alloc (.cells #[.int .i64 g, .int .i64 v, .int .i64 n, .int .i64 t, .slice A segs.length c] 24)).alloc (.cells #[.int .i64 g, .int .i64 v, .int .i64 n, .int .i64 t, .slice A' segs.length c'] 24)) := ((Below.refl _ _).alloc (Nat.le_refl _) _).alloc (by simp) _
  have HR := Hd.mk (hr.below hb0 (Nat.le_refl _))
  have HR' := Hd.mk (hr'.below hb0 (Nat.le_refl _))
  have HB := Hd.mk hb0
  have e1 : (g != g) = false := by simp
  have e2 : (v != v) = false := by simp
  have e3 : (n != n) = false := by simp
  have e4 : (t != t) = false := by simp
  have e5 : ((segs.length : Int) != (segs.length : Int)) = false := by simp
  clear hr hr' hb0
  go_enter Tryd.func20, Tryd.ntmps20
  go_wp2_with fail
  go_loopw [5] (fun i wr => ∃ (k q : Nat), k ≤ segs.length ∧ i = .int .i64 k ∧ wr = ((w.alloc (.cells #[.int .i64 g, .int .i64 v, .int .i64 n, .int .i64 t, .slice A segs.length c] 24)).alloc (.cells #[.int .i64 g, .int .i64 v, .int .i64 n, .int .i64 t, .slice A' segs.length c'] 24)).drewN q) (fun i _ => segs.length - (intOf i).toNat)
  case atStart => exact ⟨0, 0, by omega, rfl, rfl⟩
  case round =>
    obtain ⟨k, q, hk, rfl, rfl⟩ := hrel
    by_cases hlt : k < segs.length
    · obtain ⟨b, off, rfl, hb, c0, c1, c2⟩ := HR.out.seg hlt
      obtain ⟨b', off', rfl, hb', d0, d1, d2⟩ := HR'.out.seg hlt
      generalize segs[k] = s at *
      obtain ⟨num, size, count⟩ := s
      dsimp only at c0 c1 c2 d0 d1 d2
      have i1 : (0 : Int) ≤ (k : Int) ∧ (k : Int) < segs.length := by omega
      go_wp2_with fail
      go_quiet (fail)
      go_wp2_with fail
      go_roundw
      case rel => exact ⟨k + 1, _, by omega, by go_num, rfl⟩
      case measure => simp [intOf]; omega
    · go_wp2_with fail
      go_ret
      exact ⟨rfl, below_drewN HB.out _⟩

set_option maxRecDepth 100000 in
set_option maxHeartbeats 2000000 in
theorem small_ok (w : World) :
    Calls Tryd.prog 10 #[] w fun e w' => ∃ A c, e = .returned (mval ⟨1, 3, 2, 0, [⟨1, 0, 0⟩]⟩ A c) ∧ w'.ownsRow w.heap.size 45 3 (.slice A 1 c) 1 (svs [⟨1, 0, 0⟩]) ∧ Below w.heap.size w w' := by
  go_enter Tryd.func10, Tryd.ntmps10
  go_wp2_with fail
  refine bodyPost_ret (v := mval ⟨1, 3, 2, 0, [⟨1, 0, 0⟩]⟩ (some ⟨w.heap.size + 1, 0, none⟩) 1) (by simp [results, Tryd.results10, go_sem]) rfl ?_
  refine ⟨_, 1, rfl, ?_, ((Below.refl _ _).alloc (Nat.le_refl _) _).alloc (by simp) _⟩
  have h := World.ownsRow_lit (base := w.heap.size) (e := 45) (size := 3) (w.alloc (.cells #[.int .i64 1, .int .i64 3, .int .i64 2, .int .i64 0, .slice (some ⟨w.heap.size + 1, 0, none⟩) 1 1] 24)) #[.int .i64 1, .int .i64 0, .int .i64 0] 1 (by simp) (by decide) rfl
  rw [size_alloc] at h
  exact h

theorem Rd.segTake {w : World} {B : Nat} {A : Option Addr} {l : List Sg} (h : Rd w B A (svs l)) (n : Nat) : Rd w B A (svs (l.take n)) := by
  intro h0
  have hl : 0 < (svs l).length := by rw [svs_len] at h0 ⊢; simp at h0; omega
  obtain ⟨b, off, e, hb, hc⟩ := h hl
  refine ⟨b, off, e, hb, fun j u hu => hc j u ?_⟩
  have e2 : svs l = svs (l.take n) ++ svs (l.drop n) := by rw [← svs_app, List.take_append_drop]
  rw [e2, List.getElem?_append_left (List.getElem?_eq_some_iff.1 hu).1]
  exact hu

set_option maxRecDepth 100000 in
set_option maxHeartbeats 2000000 in
theorem cutSegs_ok (m : Mf) (A : Option Addr) (c : Nat) (w : World) (hr : Rd w w.heap.size A (svs m.segs)) (hl : m.segs.length ≤ 9223372036854775807) (hc : m.segs.length ≤ c) :
    Calls Tryd.prog 12 #[mval m A c] w fun e w' => e = .returned (mval { m with segs := m.segs.take 300 } A c) ∧ Below w.heap.size w w' := by
  obtain ⟨g, v, n, t, segs⟩ := m
  dsimp only at hr hl hc ⊢
  by_cases h : 300 < segs.length
  · obtain ⟨b, off, rfl, hab, _, _, _⟩ := hr.seg (show 0 < segs.length by omega)
    have hlen : (segs.take 300).length = 300 := by simp; omega
    go_enter Tryd.func12, Tryd.ntmps12
    go_wp2_with fail
    refine bodyPost_ret (v := mval ⟨g, v, n, t, segs.take 300⟩ (some ⟨b, off, none⟩) c) (by simp [results, Tryd.results12, go_sem, hlen]) rfl ?_
    exact ⟨rfl, ((Below.refl _ _).alloc (Nat.le_refl _) _).alloc (by simp) _⟩
  · have hlen : segs.take 300 = segs := List.take_of_length_le (by omega)
    go_enter Tryd.func12, Tryd.ntmps12
    go_wp2_with fail
    refine bodyPost_ret (v := mval ⟨g, v, n, t, segs⟩ A c) (by simp [results, Tryd.results12, go_sem]) rfl ?_
    exact ⟨by rw [hlen], ((Below.refl _ _).alloc (Nat.le_refl _) _).alloc (by simp) _⟩
end Go.Proofs.YtamodllgeabpoaaDoor
