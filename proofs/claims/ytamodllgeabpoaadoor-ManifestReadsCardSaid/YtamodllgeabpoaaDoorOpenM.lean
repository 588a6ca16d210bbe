/- What a manifest as an argument reads as; the table. -/
import Derived.Test.YtamodllgeabpoaaDoorOpen
import Derived.Test.YtamodllgeabpoaaDoorLawA
import Derived.Test.YtamodllgeabpoaaDoorRows
import Derived.LaidMore
import Derived.Stop.Joined
import Derived.MakeChecks
namespace Go.Proofs.YtamodllgeabpoaaDoor
open Go.RowKit Go.ChangeShapes Go.WideShapes

section
variable {H : Type} {enc : TypeId × Value → H} {W : World}
theorem trod_i64 {sp : Nat → Bool} {held : Bool} {base fuel : Nat} {cs : List Value} {x : DataW H × List MemPlace} (h : DataW.trod enc Tryd.prog W base sp held fuel 3 cs = some x) : ∃ n, cs = [.int .i64 n] ∧ i64 n := by
  obtain ⟨n, e, _, hw⟩ := DataW.trod_int Tryd.underlying3 h
  exact ⟨n, e, bounds_i64 hw⟩
set_option maxRecDepth 100000 in
theorem trod_segs {sp : Nat → Bool} {held : Bool} {base fuel : Nat} {cs : List Value} {x : DataW H × List MemPlace} (h : DataW.trod enc Tryd.prog W base sp held fuel 22 cs = some x) :
    ∃ A c l, cs = [.slice A l.length c] ∧ l.length ≤ c ∧ c ≤ maxLen ∧ Rd W W.heap.size A (svs l) ∧ ∀ s ∈ l, i64 s.num ∧ i64 s.size ∧ i64 s.count := by
  rcases Deep.open_slice Tryd.underlying22 h with ⟨rfl, _⟩ | ⟨a, len, cap, m, n, D, Pl, rfl, _, hl, hm, hmm, _, hel⟩
  · exact ⟨none, 0, [], rfl, Nat.le_refl _, Nat.zero_le _, Rd.nil _ _ _, by simp⟩
  · have c3 : Tryd.prog.cellsOf 45 = 3 := by kernel_rfl
    have ci : Tryd.prog.cellsOf 3 = 1 := by kernel_rfl
    have hle : len ≤ m := by rw [hmm]; split <;> omega
    have hE : ∀ i, i < len → ∃ s : Sg, (i64 s.num ∧ i64 s.size ∧ i64 s.count) ∧ ∀ j, j < 3 → W.cell? (a.add (i * 3 + j)) = (sv s)[j]? := by
      intro i hi
      obtain ⟨cs', h1, h2⟩ := hel i (by omega)
      rw [c3] at h1
      obtain ⟨xs, q, rfl, _, hcl, hxl, hf⟩ := DataW.trod_struct Tryd.underlying45 h2
      rw [c3] at hcl
      have hxl' : xs.length = 3 := hxl
      have f0 : DataW.trod enc Tryd.prog W base sp held q 3 ((cs'.drop 0).take (Tryd.prog.cellsOf 3)) = xs[0]? := hf 0 _ rfl
      have f1 : DataW.trod enc Tryd.prog W base sp held q 3 ((cs'.drop 1).take (Tryd.prog.cellsOf 3)) = xs[1]? := hf 1 _ rfl
      have f2 : DataW.trod enc Tryd.prog W base sp held q 3 ((cs'.drop 2).take (Tryd.prog.cellsOf 3)) = xs[2]? := hf 2 _ rfl
      rw [ci] at f0 f1 f2
      rw [List.getElem?_eq_getElem (by omega)] at f0 f1 f2
      obtain ⟨x0, e0, w0⟩ := trod_i64 f0
      obtain ⟨x1, e1, w1⟩ := trod_i64 f1
      obtain ⟨x2, e2, w2⟩ := trod_i64 f2
      match cs', hcl with
      | [y0, y1, y2], _ =>
        simp at e0 e1 e2
        subst e0 e1 e2
        refine ⟨⟨x0, x1, x2⟩, ⟨w0, w1, w2⟩, fun j hj => ?_⟩
        have ha : ∀ k, (a.add (i * 3)).add k = a.add (i * 3 + k) := fun k => Deep.add_add a _ k
        unfold World.cells? at h1
        split at h1
        · rename_i hb
          have h2 := mapM_some_get h1
          have g := fun k (hk : k < 3) => h2 k k (by simp [hk])
          simp only [ha] at g
          rw [g j hj]
          match j, hj with
          | 0, _ => rfl
          | 1, _ => rfl
          | 2, _ => rfl
        · cases h1
    obtain ⟨S, hS⟩ : ∃ S : Nat → Sg, ∀ i, i < len → (i64 (S i).num ∧ i64 (S i).size ∧ i64 (S i).count) ∧ ∀ j, j < 3 → W.cell? (a.add (i * 3 + j)) = (sv (S i))[j]? := by
      have : Inhabited Sg := ⟨⟨0, 0, 0⟩⟩
      exact Deep.choose_lt hE
    have hL : ((List.range len).map S).length = len := by simp
    refine ⟨some a, cap, (List.range len).map S, by rw [hL], by rw [hL]; exact hl, hm, ?_, ?_⟩
    · intro h0
      rw [svs_len, hL] at h0
      have h00 := (hS 0 (by omega)).2 0 (by omega)
      have hs : a.spot = none := by
        have := spot_none h00
        unfold Addr.add at this
        simpa using this
      obtain ⟨b, off, sp⟩ := a
      obtain rfl : sp = none := hs
      have had : ∀ k, (⟨b, off, none⟩ : Addr).add k = ⟨b, off + k, none⟩ := fun k => by unfold Addr.add; split <;> simp_all
      refine ⟨b, off, rfl, ?_, fun j u hu => ?_⟩
      · rw [had] at h00
        exact World.block_lt_of_cell? W _ h00
      · have hj : j < len * 3 := by
          have := (List.getElem?_eq_some_iff.1 hu).1
          rw [svs_len, hL] at this
          exact this
        have hk : j / 3 < ((List.range len).map S).length := by rw [hL]; omega
        have h1 := (hS (j / 3) (by omega)).2 (j % 3) (by omega)
        rw [show j / 3 * 3 + j % 3 = j by omega, had] at h1
        have h2 := svs_get ((List.range len).map S) (j / 3) hk (j % 3) (by omega)
        rw [show j / 3 * 3 + j % 3 = j by omega, hu] at h2
        rw [h1]
        rw [h2]
        simp
    · intro s hs
      simp only [List.mem_map, List.mem_range] at hs
      obtain ⟨i, hi, rfl⟩ := hs
      exact (hS i hi).1
set_option maxRecDepth 100000 in
theorem open_mf {base : Nat} {v : Value} {d : DataW H} {p : List MemPlace} (hval : Value.okWide Tryd.prog W .any base 24 v) (h : DataW.Trod enc Tryd.prog W 0 (fun _ => true) true 24 v d p) :
    ∃ m A c, v = mval m A c ∧ m.wf ∧ m.segs.length ≤ c ∧ c ≤ maxLen ∧ Rd W W.heap.size A (svs m.segs) := by
  have c5 : Tryd.prog.cellsOf 24 = 5 := by kernel_rfl
  have ci : Tryd.prog.cellsOf 3 = 1 := by kernel_rfl
  have cs1 : Tryd.prog.cellsOf 22 = 1 := by kernel_rfl
  obtain ⟨cs, rfl, hcs⟩ := okWide_struct Tryd.underlying24 hval
  rw [c5] at hcs
  obtain ⟨fuel, hf⟩ := h
  obtain ⟨xs, q, rfl, _, hcl, hxl, hf⟩ := DataW.trod_struct Tryd.underlying24 hf
  have hxl' : xs.length = 5 := hxl
  have f0 : DataW.trod enc Tryd.prog W 0 (fun _ => true) true q 3 (((Value.agg cs).cells.toList.drop 0).take (Tryd.prog.cellsOf 3)) = xs[0]? := hf 0 _ rfl
  have f1 : DataW.trod enc Tryd.prog W 0 (fun _ => true) true q 3 (((Value.agg cs).cells.toList.drop 1).take (Tryd.prog.cellsOf 3)) = xs[1]? := hf 1 _ rfl
  have f2 : DataW.trod enc Tryd.prog W 0 (fun _ => true) true q 3 (((Value.agg cs).cells.toList.drop 2).take (Tryd.prog.cellsOf 3)) = xs[2]? := hf 2 _ rfl
  have f3 : DataW.trod enc Tryd.prog W 0 (fun _ => true) true q 3 (((Value.agg cs).cells.toList.drop 3).take (Tryd.prog.cellsOf 3)) = xs[3]? := hf 3 _ rfl
  have f4 : DataW.trod enc Tryd.prog W 0 (fun _ => true) true q 22 (((Value.agg cs).cells.toList.drop 4).take (Tryd.prog.cellsOf 22)) = xs[4]? := hf 4 _ rfl
  rw [ci] at f0 f1 f2 f3
  rw [cs1] at f4
  rw [List.getElem?_eq_getElem (by omega)] at f0 f1 f2 f3 f4
  obtain ⟨x0, e0, w0⟩ := trod_i64 f0
  obtain ⟨x1, e1, w1⟩ := trod_i64 f1
  obtain ⟨x2, e2, w2⟩ := trod_i64 f2
  obtain ⟨x3, e3, w3⟩ := trod_i64 f3
  obtain ⟨A, c, l, e4, hlc, hcm, hr, hw⟩ := trod_segs f4
  obtain ⟨csl⟩ := cs
  match csl, hcs with
  | [y0, y1, y2, y3, y4], _ =>
    simp [Value.cells] at e0 e1 e2 e3 e4
    subst e0 e1 e2 e3 e4
    exact ⟨⟨x0, x1, x2, x3, l⟩, A, c, rfl, ⟨w0, w1, w2, w3, hw⟩, hlc, hcm, hr⟩
set_option maxRecDepth 100000 in
theorem open_bts {base : Nat} {v : Value} {d : DataW H} {p : List MemPlace} (hval : Value.okWide Tryd.prog W .any base 30 v) (h : DataW.Trod enc Tryd.prog W 0 (fun _ => true) true 30 v d p) :
    ∃ l A c, v = .slice A l.length c ∧ l.length ≤ c ∧ c ≤ maxLen ∧ Rd W W.heap.size A (bv l) := by
  obtain ⟨a, n, c, rfl⟩ := okWide_slice Tryd.underlying30 hval
  obtain ⟨fuel, hf⟩ := h
  obtain ⟨A, c', l, e, h1, h2, h3⟩ := open_rd_bytes Tryd.underlying30 Tryd.underlying5 (by kernel_rfl) hf
  simp only [Value.cells, List.cons.injEq, and_true, Value.slice.injEq] at e
  obtain ⟨rfl, rfl, rfl⟩ := e
  exact ⟨l, a, c, rfl, h1, h2, h3⟩
end

theorem gTab : Tryd.prog.globalNamed "annals/wire.table" = some 0 := by kernel_rfl
theorem tTab : (Tryd.prog.globals[0]?).map (·.type) = some 136 := by kernel_rfl
/-- what the condition on the listed variable gives -/
theorem tab_of_laid {W : World} (h : laidMetH Tryd.prog [("annals/wire.table", Rows.laid_annals_wire_table)] W) : Tab W ∧ 0 < W.heap.size := by
  rw [MakeChecks.laidMetH_plain _ _ _ (by kernel_rfl)] at h
  obtain ⟨ps, ⟨g0, t0, cs0, f0, p0, q0, hg0, ht0, hv0, hd0, _⟩, _, _⟩ := h
  obtain rfl := Option.some.inj (gTab.symm.trans hg0)
  obtain rfl := Option.some.inj (tTab.symm.trans ht0)
  have h1 := tab_of_trod (l := tbl.map fun (z : Nat) => (z : Int)) Tryd.underlying136 Tryd.underlying120 (by kernel_rfl) hd0 rfl
  have hT : Tab W := by
    intro i hi
    have h2 := h1 i hi
    have h3 := World.var?_cell hg0 hv0 i
    rw [Array.getElem?_toList] at h2
    rw [h3, h2]
    congr 2
    have : ∀ i : Fin 16, (tbl.map fun (z : Nat) => (z : Int)).getD i.val 0 = ((tbl.getD i.val 0 : Nat) : Int) := by decide
    exact this ⟨i, hi⟩
  exact ⟨hT, World.block_lt_of_cell? W _ (hT 0 (by omega))⟩
/-- the door's own heap meets the condition -/
theorem door_met (os : Os) (args : Array Value) : laidMetH Tryd.prog [("annals/wire.table", Rows.laid_annals_wire_table)] ((World.doorLaid Tryd.prog 400 os).forCall (fun _ _ => 0) ⟨#[], args, []⟩).memory :=
  laidMetH_of_parts3 (fuel := 8) (laidMet_of_run' 8 (by kernel_rfl) (by kernel_rfl)) (by kernel_rfl) (by kernel_rfl)
theorem own : ownKnob Tryd.prog.godebug = none := by kernel_rfl
theorem laidOut : laidOutB Tryd.prog = true := by kernel_rfl
end Go.Proofs.YtamodllgeabpoaaDoor
