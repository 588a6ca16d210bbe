/- Contracts: what was laid is as it was; rows of one mark are told as such. -/
import Derived.Test.YtamodllgeabpoaaDoorLawB
namespace Go.Proofs.YtamodllgeabpoaaDoor
open Go.RowKit

set_option maxRecDepth 100000 in
set_option maxHeartbeats 2000000 in
theorem intactSegs_ok (m : Mf) (A A' : Option Addr) (c c' : Nat) (w : World) (hr' : Rd w w.heap.size A' (svs (m.segs ++ mk2))) (hc' : m.segs.length + 2 ≤ c') (hr : Rd w w.heap.size A (svs m.segs)) (hl : m.segs.length ≤ 1000000) :
    Calls Tryd.prog 17 #[mval m A' c', mval m A c] w fun e w' => e = .returned (.bool true) ∧ Below w.heap.size w w' := by
  have hrs : Rd w w.heap.size A' (svs m.segs) := by
    have := hr'.segTake m.segs.length
    rwa [List.take_left] at this
  obtain ⟨gg, v, n, t, segs⟩ := m
  dsimp only at hr hl hr' hc' hrs
  have hb0 : Below w.heap.size w ((w.alloc (.cells #[.int .i64 gg, .int .i64 v, .int .i64 n, .int .i64 t, .slice A' segs.length c'] 24)).alloc (.cells #[.int .i64 gg, .int .i64 v, .int .i64 n, .int .i64 t, .slice A segs.length c] 24)) := ((Below.refl _ _).alloc (Nat.le_refl _) _).alloc (by simp) _
  have hX := (Blk.new w 24 #[.int .i64 gg, .int .i64 v, .int .i64 n, .int .i64 t, .slice A' segs.length c']).alloc (.cells #[.int .i64 gg, .int .i64 v, .int .i64 n, .int .i64 t, .slice A segs.length c] 24)
  have hY := Blk.new (w.alloc (.cells #[.int .i64 gg, .int .i64 v, .int .i64 n, .int .i64 t, .slice A' segs.length c'] 24)) 24 #[.int .i64 gg, .int .i64 v, .int .i64 n, .int .i64 t, .slice A segs.length c]
  rw [size_alloc] at hY
  have hS := same_law ⟨gg, v, n, t, segs⟩ A' A c' c _ ((hrs.below hb0 (Nat.le_refl _)).more hb0.size) ((hr.below hb0 (Nat.le_refl _)).more hb0.size) (by show segs.length ≤ _; omega)
  have h0 := svs_get (segs ++ mk2) segs.length (by simp [mk2])
  have h1 := svs_get (segs ++ mk2) (segs.length + 1) (by simp [mk2])
  have e0 : (segs ++ mk2)[segs.length]'(by simp [mk2]) = ⟨-201, 0, 0⟩ := by simp [mk2]
  have e1 : (segs ++ mk2)[segs.length + 1]'(by simp [mk2]) = ⟨-202, 0, 0⟩ := by simp [mk2]
  rw [e0] at h0
  rw [e1] at h1
  obtain ⟨b, off, rfl, hb, hcell⟩ := hr' (by rw [svs_len]; simp [mk2])
  have HC := Hd.mk fun (W : World) (h : Below w.heap.size w W) => (show W.cell? ⟨b, off + segs.length * 3, none⟩ = some (.int .i64 (-201)) ∧ W.cell? ⟨b, off + segs.length * 3 + 1, none⟩ = some (.int .i64 0) ∧ W.cell? ⟨b, off + segs.length * 3 + 2, none⟩ = some (.int .i64 0) ∧
      W.cell? ⟨b, off + (segs.length + 1) * 3, none⟩ = some (.int .i64 (-202)) ∧ W.cell? ⟨b, off + (segs.length + 1) * 3 + 1, none⟩ = some (.int .i64 0) ∧ W.cell? ⟨b, off + (segs.length + 1) * 3 + 2, none⟩ = some (.int .i64 0) from
    ⟨(h.cell (p := ⟨b, _, none⟩) hb).trans (hcell _ _ (h0 0 (by omega))), (h.cell (p := ⟨b, _, none⟩) hb).trans (hcell _ _ (h0 1 (by omega))), (h.cell (p := ⟨b, _, none⟩) hb).trans (hcell _ _ (h0 2 (by omega))),
     (h.cell (p := ⟨b, _, none⟩) hb).trans (hcell _ _ (h1 0 (by omega))), (h.cell (p := ⟨b, _, none⟩) hb).trans (hcell _ _ (h1 1 (by omega))), (h.cell (p := ⟨b, _, none⟩) hb).trans (hcell _ _ (h1 2 (by omega)))⟩)
  have HS := Hd.mk hS
  have HX := Hd.mk hX
  have HY := Hd.mk hY
  have HB0 := Hd.mk hb0
  clear hS hX hY hb0 hr hr' hrs h0 h1 e0 e1 hcell
  go_enter Tryd.func17, Tryd.ntmps17
  go_wp2_with (first
    | (go_at_call 20; refine HS.out.mono ?_; rintro e w2 ⟨rfl, hb2⟩; obtain ⟨r1, r2, r3, r4, r5, r6, r7, r8, r9, r10, r11⟩ := (HX.out.below hb2 (by simp; omega)).five; obtain ⟨z1, z2, z3, z4, z5, z6, z7, z8, z9, z10, z11⟩ := (HY.out.below hb2 (by simp)).five; have HB2 := Hd.mk (HB0.out.trans (hb2.mono HB0.out.size)); clear hb2; obtain ⟨q1, q2, q3, q4, q5, q6⟩ := HC.out w2 HB2.out))
  go_ret
  exact ⟨rfl, HB2.out⟩

theorem fill_set (l : List UInt8) (k : Nat) (x : UInt8) (h : k < l.length) : (bv (List.replicate k x ++ l.drop k)).set k (.int .u8 (x.toNat : Int)) = bv (List.replicate (k + 1) x ++ l.drop (k + 1)) := by
  have e : l.drop k = l[k] :: l.drop (k + 1) := List.drop_eq_getElem_cons h
  have e2 : bv (l[k] :: l.drop (k + 1)) = .int .u8 (l[k].toNat : Int) :: bv (l.drop (k + 1)) := rfl
  rw [e, bv_app, List.set_append_right _ _ (by simp [bv]), e2]
  rw [show k - (bv (List.replicate k x)).length = 0 by simp [bv], List.set_cons_zero, List.replicate_succ', bv_app, bv_app, List.append_assoc]
  rfl
theorem fill_len (l : List UInt8) (k : Nat) (x : UInt8) (h : k ≤ l.length) : (List.replicate k x ++ l.drop k).length = l.length := by simp; omega
theorem fill_end (l : List UInt8) (x : UInt8) : bv (List.replicate l.length x ++ l.drop l.length) = mrep [.int .u8 (x.toNat : Int)] l.length := by
  rw [List.drop_length, List.append_nil, bv_rep]
theorem all_rep (n base : Nat) (x : UInt8) (xi : Int) (hx : xi = x.toNat) (A : Option Addr) (c : Nat) (w : World) (ho : w.ownsRow base 5 1 (.slice A n c) n (mrep [.int .u8 xi] n)) (hn : n ≤ 140737488355328) :
    Calls Tryd.prog 18 #[.slice A n c, .int .u8 xi] w fun e w' => e = .returned (.bool true) ∧ w = w' := by
  subst hx
  rw [← bv_rep] at ho
  have h := all_ok A c _ (List.replicate n x) x w (Rd.of_own ho) (by simpa using hn) (fun y hy => (List.mem_replicate.1 hy).2)
  rwa [List.length_replicate] at h
/-- a row is kept where another row is written -/
theorem own_off {w w' : World} {base : Nat} {e : TypeId} {size n : Nat} {v : Value} {xs : List Value} (h : w.ownsRow base e size v n xs) {row : Option Nat} (hg : w.grownBy w' row) (hrow : ∀ k, row = some k → k < base) : w'.ownsRow base e size v n xs := by
  refine h.kept hg ?_
  cases hq : v.ownBlock with
  | none => exact .inl rfl
  | some q => exact .inr fun e => by have h1 := (h.lt q hq).1; have h2 := hrow q e.symm; omega
end Go.Proofs.YtamodllgeabpoaaDoor
