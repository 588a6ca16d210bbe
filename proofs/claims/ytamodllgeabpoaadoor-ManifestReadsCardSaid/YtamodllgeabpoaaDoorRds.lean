/- Contract: ManifestReads answers true, whatever it is handed. -/
import Derived.Test.YtamodllgeabpoaaDoorLawD
import Derived.Test.YtamodllgeabpoaaDoorChk
import Derived.Deep.RegionHeld3
namespace Go.Proofs.YtamodllgeabpoaaDoor
open Go.RowKit

theorem own_cap0 {w : World} {base n c size : Nat} {e : TypeId} {A : Option Addr} {xs : List Value} (h : w.ownsRow base e size (.slice A n c) n xs) : n ≤ c := by
  rcases h.2 with ⟨_, h0⟩ | ⟨g, cap, cur, hv, _, _, hnc, _⟩
  · omega
  · injection hv with _ _ h3
    omega
theorem decM_len {b : List UInt8} : (mfM (decM b)).segs.length ≤ 128 := by
  cases h : decM b with
  | error e => exact Nat.zero_le _
  | ok m => exact (chkM_ok (decM_back h).2.1).2.2.2.2.2.2.2.2.1

/-- what was there: bytes of a manifest, and the bytes that are read with marks behind them -/
structure RdA (w : World) (B1 : Nat) (Ac : Option Addr) (fs : List UInt8) (w' : World) : Prop where
  below : Below w.heap.size w w'
  le : B1 ≤ w'.heap.size
  lo : w.heap.size ≤ B1
  cB : Rd w' B1 Ac (bv fs)
section
variable {w w' w'' : World} {B1 : Nat} {Ac : Option Addr} {fs : List UInt8}
theorem RdA.later (h : RdA w B1 Ac fs w') (hb : Below w'.heap.size w' w'') : RdA w B1 Ac fs w'' :=
  ⟨h.below.trans (hb.mono h.below.size), Nat.le_trans h.le hb.size, h.lo, h.cB.below hb h.le⟩
theorem RdA.rd (h : RdA w B1 Ac fs w') {A' : Option Addr} {vs : List Value} (hr : Rd w w.heap.size A' vs) : Rd w' w'.heap.size A' vs := (hr.below h.below (Nat.le_refl _)).more h.below.size
theorem RdA.tab (h : RdA w B1 Ac fs w') (hT : Tab w) (h0 : 0 < w.heap.size) : Tab w' := hT.below h.below h0
theorem RdA.le0 (h : RdA w B1 Ac fs w') (h0 : 0 < w.heap.size) : 0 < w'.heap.size := Nat.lt_of_lt_of_le h0 h.below.size
end

/-- besides, a manifest in a box, and its list -/
structure RdM (w : World) (B1 : Nat) (Ac : Option Addr) (fs : List UInt8) (gm : Nat) (m : Mf) (Am : Option Addr) (cm : Nat) (w' : World) : Prop where
  ra : RdA w B1 Ac fs w'
  mb : Blk w' gm 24 #[.int .i64 m.gen, .int .i64 m.v, .int .i64 m.next, .int .i64 m.top, .slice Am m.segs.length cm]
  rd : Rd w' w'.heap.size Am (svs m.segs)
theorem RdM.later {w w' w'' : World} {B1 : Nat} {Ac : Option Addr} {fs : List UInt8} {gm : Nat} {m : Mf} {Am : Option Addr} {cm : Nat} (h : RdM w B1 Ac fs gm m Am cm w') (hb : Below w'.heap.size w' w'') : RdM w B1 Ac fs gm m Am cm w'' :=
  ⟨h.ra.later hb, h.mb.below hb h.mb.lt, (h.rd.below hb (Nat.le_refl _)).more hb.size⟩
theorem RdM.drew {w w' : World} {B1 : Nat} {Ac : Option Addr} {fs : List UInt8} {gm : Nat} {m : Mf} {Am : Option Addr} {cm : Nat} (h : RdM w B1 Ac fs gm m Am cm w') : RdM w B1 Ac fs gm m Am cm w'.drew := h.later (Below.refl _ _).drew
theorem rd_later {w w' : World} {A : Option Addr} {vs : List Value} (h : Rd w w.heap.size A vs) (hb : Below w.heap.size w w') : Rd w' w'.heap.size A vs := (h.below hb (Nat.le_refl _)).more hb.size

theorem rd_at {w : World} {B B' g o : Nat} {vs : List Value} (h : Rd w B (some ⟨g, o, none⟩) vs) (hg : g < B') : Rd w B' (some ⟨g, o, none⟩) vs := by
  intro h0
  obtain ⟨b, off, e, _, hc⟩ := h h0
  obtain ⟨rfl, rfl⟩ : g = b ∧ o = off := by simpa using e
  exact ⟨g, o, rfl, hg, hc⟩
theorem rd_grown {w w' : World} {B : Nat} {A : Option Addr} {vs : List Value} {row : Option Nat} (h : Rd w B A vs) (hB : B ≤ w.heap.size) (hg : w.grownBy w' row) (hrow : ∀ k, row = some k → B ≤ k) : Rd w' B A vs := by
  intro h0
  obtain ⟨b, off, e, hlt, hc⟩ := h h0
  refine ⟨b, off, e, hlt, fun j u hu => ?_⟩
  have hk : w'.heap[b]? = w.heap[b]? := hg.block b (by omega) (fun e => by have := hrow b e.symm; omega)
  exact (World.cell?_of_block (a := ⟨b, off + j, none⟩) hk).trans (hc j u hu)
/-- the memory behind the first two readings -/
structure RdS (w : World) (B1 gm H1 H2 : Nat) (Ac : Option Addr) (fs : List UInt8) (g7 : Nat) (b1 : List UInt8) (Am : Option Addr) (cm : Nat) (m : Mf) (gk : Nat) (Ak : Option Addr) (ck : Nat) (w' : World) : Prop where
  below : Below w.heap.size w w'
  n1 : w.heap.size ≤ B1
  n2 : B1 ≤ gm
  n3 : gm < H1
  n4 : H1 ≤ H2
  n5 : H2 ≤ gk
  cB : Rd w' B1 Ac (bv fs)
  inB : Rd w' H1 (some ⟨g7, 0, none⟩) (bv (b1 ++ mk5))
  mb : Blk w' gm 24 #[.int .i64 m.gen, .int .i64 m.v, .int .i64 m.next, .int .i64 m.top, .slice Am m.segs.length cm]
  kb : Blk w' gk 24 #[.int .i64 m.gen, .int .i64 m.v, .int .i64 m.next, .int .i64 m.top, .slice Ak m.segs.length ck]
  kr : w'.ownsRow H2 45 3 (.slice Ak m.segs.length ck) m.segs.length (svs m.segs)
section
variable {w w' w'' : World} {B1 gm H1 H2 : Nat} {Ac : Option Addr} {fs : List UInt8} {g7 : Nat} {b1 : List UInt8} {Am : Option Addr} {cm : Nat} {m : Mf} {gk : Nat} {Ak : Option Addr} {ck : Nat}
theorem RdS.grown (h : RdS w B1 gm H1 H2 Ac fs g7 b1 Am cm m gk Ak ck w') {row : Option Nat} (hg : w'.grownBy w'' row) (hrow : ∀ k, row = some k → H1 ≤ k ∧ k < H2) : RdS w B1 gm H1 H2 Ac fs g7 b1 Am cm m gk Ak ck w'' := by
  have := h.n1
  have := h.n2
  have := h.n3
  have := h.n4
  have := h.n5
  have := h.kb.lt
  exact ⟨h.below.grown hg (by omega) (fun k hk => by have := hrow k hk; omega), h.n1, h.n2, h.n3, h.n4, h.n5, rd_grown h.cB (by omega) hg (fun k hk => by have := hrow k hk; omega), rd_grown h.inB (by omega) hg (fun k hk => (hrow k hk).1),
    h.mb.grown hg (fun e => by have := hrow _ e; omega), h.kb.grown hg (fun e => by have := hrow _ e; omega), own_off h.kr hg (fun k hk => (hrow k hk).2)⟩
theorem RdS.later (h : RdS w B1 gm H1 H2 Ac fs g7 b1 Am cm m gk Ak ck w') (hb : Below w'.heap.size w' w'') : RdS w B1 gm H1 H2 Ac fs g7 b1 Am cm m gk Ak ck w'' :=
  h.grown (row := none) ⟨hb.os, hb.tape, hb.output, hb.size, fun k hk _ => hb.block k hk⟩ (by simp)
theorem RdS.rd (h : RdS w B1 gm H1 H2 Ac fs g7 b1 Am cm m gk Ak ck w') {A' : Option Addr} {vs : List Value} (hr : Rd w w.heap.size A' vs) : Rd w' w'.heap.size A' vs := (hr.below h.below (Nat.le_refl _)).more h.below.size
theorem RdS.tab (h : RdS w B1 gm H1 H2 Ac fs g7 b1 Am cm m gk Ak ck w') (hT : Tab w) (h0 : 0 < w.heap.size) : Tab w' := hT.below h.below h0
theorem RdS.le0 (h : RdS w B1 gm H1 H2 Ac fs g7 b1 Am cm m gk Ak ck w') (h0 : 0 < w.heap.size) : 0 < w'.heap.size := Nat.lt_of_lt_of_le h0 h.below.size
theorem RdS.rdC (h : RdS w B1 gm H1 H2 Ac fs g7 b1 Am cm m gk Ak ck w') : Rd w' w'.heap.size Ac (bv fs) := h.cB.more (by have := h.mb.lt; have := h.n2; omega)
theorem RdS.hH2 (h : RdS w B1 gm H1 H2 Ac fs g7 b1 Am cm m gk Ak ck w') : H2 ≤ w'.heap.size := by have := h.kb.lt; have := h.n5; omega
theorem RdS.rdI5 (h : RdS w B1 gm H1 H2 Ac fs g7 b1 Am cm m gk Ak ck w') : Rd w' w'.heap.size (some ⟨g7, 0, none⟩) (bv (b1 ++ mk5)) := h.inB.more (by have := h.hH2; have := h.n4; omega)
theorem RdS.rdI (h : RdS w B1 gm H1 H2 Ac fs g7 b1 Am cm m gk Ak ck w') : Rd w' w'.heap.size (some ⟨g7, 0, none⟩) (bv b1) := h.rdI5.bvTake b1 ⟨b1.length, by simp⟩
end

abbrev MK7 : Sg := ⟨-7, 0, 0⟩
theorem fill_seg (l : List Sg) (k : Nat) (m : Sg) (h : k < l.length) :
    (((svs (List.replicate k m ++ l.drop k)).set (k * 3) (.int .i64 m.num)).set (k * 3 + 1) (.int .i64 m.size)).set (k * 3 + 2) (.int .i64 m.count) = svs (List.replicate (k + 1) m ++ l.drop (k + 1)) := by
  have e : l.drop k = l[k] :: l.drop (k + 1) := List.drop_eq_getElem_cons h
  have e2 : svs (l[k] :: l.drop (k + 1)) = .int .i64 (l[k]).num :: .int .i64 (l[k]).size :: .int .i64 (l[k]).count :: svs (l.drop (k + 1)) := rfl
  have hlen : (svs (List.replicate k m)).length = k * 3 := by rw [svs_len, List.length_replicate]
  rw [e, svs_app, e2]
  rw [List.set_append_right _ _ (by omega), List.set_append_right _ _ (by omega), List.set_append_right _ _ (by omega), hlen, Nat.sub_self,
    show k * 3 + 1 - k * 3 = 1 by omega, show k * 3 + 2 - k * 3 = 2 by omega, List.replicate_succ', svs_app, svs_app, List.append_assoc]
  rfl
theorem svs_rep (n : Nat) (m : Sg) : svs (List.replicate n m) = mrep (sv m) n := by
  induction n with
  | zero => rfl
  | succ n ih => rw [mrep_succ, ← ih]; rfl
theorem fill_segEnd (l : List Sg) (m : Sg) : svs (List.replicate l.length m ++ l.drop l.length) = mrep (sv m) l.length := by
  rw [List.drop_length, List.append_nil, svs_rep]

/-- append of marks onto marks, at a step of a region that draws its order -/
theorem step_append_mark {P : Program} {t e : TypeId} {bytes : Nat} {mk : List Value} (T : SlT P t e mk.length bytes) (hsz : 0 < mk.length) (hmk : ∀ u ∈ mk, u.oneCell' = true) {ops : Array Oper} {o : Oper} {a : Act} {K : Act → World → Prop} {Q : Exit → Act → World → Prop} {E : Prop} {w : World} (hgd : o.guard = none) (s x : Operand)
    (ho : o.op = .call { callee := .builtin .append, args := #[s, x], argTypes := #[t, t] })
    (base : Nat) (v : Value) (n : Nat) (hs : a.eval s = v) (hown : w.ownsRow base e mk.length v n (mrep mk n))
    (ad : Addr) (m c : Nat) (hx : a.eval x = .slice (some ad) m c) (hr : ∀ j u, (mrep mk m)[j]? = some u → w.cell? (ad.add j) = some u) (hbytes : (n + m) * bytes ≤ 140737488355328) (hb0 : 0 < bytes) (hbase : base ≤ w.heap.size)
    (h : ∀ A' c' w', w'.ownsRow base e mk.length (.slice A' (n + m) c') (n + m) (mrep mk (n + m)) → KeepM w w' e mk → w.grownBy w' v.ownBlock → K (a.put o.dst (.slice A' (n + m) c')) w') :
    if Region.wanted o (yielded ops a.tmps) = true then Oper.wp P o a w K Q else E := by
  have hw : Region.wanted o (yielded ops a.tmps) = true := by simp [Region.wanted, hgd]
  rw [if_pos hw]
  obtain ⟨A', c', w', hrun, h2, h3, h4⟩ := T.run_append_mark hsz hmk (w := w) o.type base v n hown ad m c hr hbytes hb0 hbase
  unfold Oper.wp execOp
  simp only [ho, resolve, invoke, builtin, Sem.run_bind, Sem.run_pure, Result.andThen_ok, List.map_toArray, List.map_cons, List.map_nil, hs, hx, hrun]
  exact h A' c' w' h2 h4 h3
theorem news3 {W : World} {B : Nat} (h0 : W.cell? ⟨B, 0, none⟩ = some (.int .i64 (-7))) (h1 : W.cell? ⟨B, 1, none⟩ = some (.int .i64 0)) (h2 : W.cell? ⟨B, 2, none⟩ = some (.int .i64 0)) :
    ∀ j u, (mrep (sv MK7) 1)[j]? = some u → W.cell? ((⟨B, 0, none⟩ : Addr).add j) = some u := by
  intro j u hu
  rw [show (⟨B, 0, none⟩ : Addr).add j = ⟨B, j, none⟩ from by unfold Addr.add; split <;> simp_all]
  have hj : j < 3 := by have := (List.getElem?_eq_some_iff.1 hu).1; rw [mrep_len] at this; exact this
  match j, hj with
  | 0, _ => rw [h0, ← hu]; rfl
  | 1, _ => rw [h1, ← hu]; rfl
  | 2, _ => rw [h2, ← hu]; rfl
theorem news6 {W : World} {B : Nat} (h0 : W.cell? ⟨B, 0, none⟩ = some (.int .i64 (-7))) (h1 : W.cell? ⟨B, 1, none⟩ = some (.int .i64 0)) (h2 : W.cell? ⟨B, 2, none⟩ = some (.int .i64 0))
    (h3 : W.cell? ⟨B, 3, none⟩ = some (.int .i64 (-7))) (h4 : W.cell? ⟨B, 4, none⟩ = some (.int .i64 0)) (h5 : W.cell? ⟨B, 5, none⟩ = some (.int .i64 0)) :
    ∀ j u, (mrep (sv MK7) 2)[j]? = some u → W.cell? ((⟨B, 0, none⟩ : Addr).add j) = some u := by
  intro j u hu
  rw [show (⟨B, 0, none⟩ : Addr).add j = ⟨B, j, none⟩ from by unfold Addr.add; split <;> simp_all]
  have hj : j < 6 := by have := (List.getElem?_eq_some_iff.1 hu).1; rw [mrep_len] at this; exact this
  match j, hj with
  | 0, _ => rw [h0, ← hu]; rfl
  | 1, _ => rw [h1, ← hu]; rfl
  | 2, _ => rw [h2, ← hu]; rfl
  | 3, _ => rw [h3, ← hu]; rfl
  | 4, _ => rw [h4, ← hu]; rfl
  | 5, _ => rw [h5, ← hu]; rfl
/-- besides, the mark's box, and the list of marks -/
structure RdT (w : World) (B1 gm H1 H2 : Nat) (Ac : Option Addr) (fs : List UInt8) (g7 : Nat) (b1 : List UInt8) (Am : Option Addr) (cm : Nat) (m : Mf) (gk : Nat) (Ak : Option Addr) (ck : Nat) (g9 : Nat) (w' : World) : Prop where
  rs : RdS w B1 gm H1 H2 Ac fs g7 b1 Am cm m gk Ak ck w'
  k9 : Blk w' g9 45 #[.int .i64 (-7), .int .i64 0, .int .i64 0]
  n9 : H2 ≤ g9
  bk : ∀ q, (Value.slice Am m.segs.length cm).ownBlock = some q → H1 ≤ q ∧ q < H2
  row : w'.ownsRow H1 45 3 (.slice Am m.segs.length cm) m.segs.length (mrep (sv MK7) m.segs.length)
section
variable {w w' w'' : World} {B1 gm H1 H2 : Nat} {Ac : Option Addr} {fs : List UInt8} {g7 : Nat} {b1 : List UInt8} {Am : Option Addr} {cm : Nat} {m : Mf} {gk : Nat} {Ak : Option Addr} {ck g9 : Nat}
theorem RdT.later (h : RdT w B1 gm H1 H2 Ac fs g7 b1 Am cm m gk Ak ck g9 w') (hb : Below w'.heap.size w' w'') : RdT w B1 gm H1 H2 Ac fs g7 b1 Am cm m gk Ak ck g9 w'' :=
  ⟨h.rs.later hb, h.k9.below hb h.k9.lt, h.n9, h.bk, own_below h.row hb⟩
theorem RdT.drew (h : RdT w B1 gm H1 H2 Ac fs g7 b1 Am cm m gk Ak ck g9 w') : RdT w B1 gm H1 H2 Ac fs g7 b1 Am cm m gk Ak ck g9 w'.drew := h.later (Below.refl _ _).drew
theorem RdT.alloc (h : RdT w B1 gm H1 H2 Ac fs g7 b1 Am cm m gk Ak ck g9 w') (o : Obj) : RdT w B1 gm H1 H2 Ac fs g7 b1 Am cm m gk Ak ck g9 (w'.alloc o) := h.later ((Below.refl _ _).alloc (Nat.le_refl _) _)
theorem RdT.put (h : RdT w B1 gm H1 H2 Ac fs g7 b1 Am cm m gk Ak ck g9 w') (hg : w'.grownBy w'' (Value.slice Am m.segs.length cm).ownBlock) (hk : KeepM w' w'' 45 (sv MK7)) : RdT w B1 gm H1 H2 Ac fs g7 b1 Am cm m gk Ak ck g9 w'' :=
  ⟨h.rs.grown hg h.bk, h.k9.grown hg (fun e => by have := (h.bk _ e).2; have := h.n9; omega), h.n9, h.bk, hk _ _ _ h.row⟩
theorem RdT.S (h : RdT w B1 gm H1 H2 Ac fs g7 b1 Am cm m gk Ak ck g9 w') : w'.cell? ⟨gm, 4, none⟩ = some (.slice Am m.segs.length cm) ∧ w'.cell? ⟨g9, 0, none⟩ = some (.int .i64 (-7)) ∧ w'.cell? ⟨g9, 1, none⟩ = some (.int .i64 0) ∧ w'.cell? ⟨g9, 2, none⟩ = some (.int .i64 0) ∧ Hd (RdT w B1 gm H1 H2 Ac fs g7 b1 Am cm m gk Ak ck g9 w') :=
  ⟨h.rs.mb.five.2.2.2.2.2.1, h.k9.cell 0, h.k9.cell 1, h.k9.cell 2, ⟨h⟩⟩
theorem RdT.h1 (h : RdT w B1 gm H1 H2 Ac fs g7 b1 Am cm m gk Ak ck g9 w') : H1 ≤ w'.heap.size := Nat.le_trans h.rs.n4 h.rs.hH2
theorem RdT.far (h : RdT w B1 gm H1 H2 Ac fs g7 b1 Am cm m gk Ak ck g9 w') (hg : w'.grownBy w'' (Value.slice Am m.segs.length cm).ownBlock) : ∀ b o, H2 ≤ b → b < w'.heap.size → w''.cell? ⟨b, o, none⟩ = w'.cell? ⟨b, o, none⟩ :=
  fun b o h1 h2 => hg.cell_far ⟨b, o, none⟩ h2 (fun e => by have := (h.bk b e.symm).2; omega)
end

/-- the memory that was there, a manifest in a box, its list -/
structure NBx (w : World) (gn : Nat) (m : Mf) (An : Option Addr) (cn : Nat) (w' : World) : Prop where
  below : Below w.heap.size w w'
  lo : w.heap.size ≤ gn
  mb : Blk w' gn 24 #[.int .i64 m.gen, .int .i64 m.v, .int .i64 m.next, .int .i64 m.top, .slice An m.segs.length cn]
  rd : Rd w' w'.heap.size An (svs m.segs)
theorem NBx.later {w w' w'' : World} {gn : Nat} {m : Mf} {An : Option Addr} {cn : Nat} (h : NBx w gn m An cn w') (hb : Below w'.heap.size w' w'') : NBx w gn m An cn w'' :=
  ⟨h.below.trans (hb.mono h.below.size), h.lo, h.mb.below hb h.mb.lt, rd_later h.rd hb⟩
theorem NBx.drew {w w' : World} {gn : Nat} {m : Mf} {An : Option Addr} {cn : Nat} (h : NBx w gn m An cn w') : NBx w gn m An cn w'.drew := h.later (Below.refl _ _).drew
theorem NBx.S {w w' : World} {gn : Nat} {m : Mf} {An : Option Addr} {cn : Nat} (h : NBx w gn m An cn w') : w'.cell? ⟨gn, 0, none⟩ = some (.int .i64 m.gen) ∧ w'.cell? ⟨gn, 1, none⟩ = some (.int .i64 m.v) ∧ w'.cell? ⟨gn, 2, none⟩ = some (.int .i64 m.next) ∧ w'.cell? ⟨gn, 3, none⟩ = some (.int .i64 m.top) ∧
    w'.cell? ⟨gn, 4, none⟩ = some (.slice An m.segs.length cn) ∧ Hd (NBx w gn m An cn w') := ⟨h.mb.cell 0, h.mb.cell 1, h.mb.cell 2, h.mb.cell 3, h.mb.cell 4, ⟨h⟩⟩

theorem mark_cells {w : World} {base g n c : Nat} {e : TypeId} (h : w.ownsRow base e 3 (.slice (some ⟨g, 0, none⟩) n c) n (mrep (sv MK7) n)) {k : Nat} (hk : k < n) :
    w.cell? ⟨g, k * 3, none⟩ = some (.int .i64 (-7)) ∧ w.cell? ⟨g, k * 3 + 1, none⟩ = some (.int .i64 0) ∧ w.cell? ⟨g, k * 3 + 2, none⟩ = some (.int .i64 0) := by
  have hl : (sv MK7).length = 3 := rfl
  have h0 := (h.cellAt (k * 3) (by omega)).trans (mrep_get (sv MK7) n (k * 3) (by rw [hl]; omega))
  have h1 := (h.cellAt (k * 3 + 1) (by omega)).trans (mrep_get (sv MK7) n (k * 3 + 1) (by rw [hl]; omega))
  have h2 := (h.cellAt (k * 3 + 2) (by omega)).trans (mrep_get (sv MK7) n (k * 3 + 2) (by rw [hl]; omega))
  rw [hl, show k * 3 % 3 = 0 by omega] at h0
  rw [hl, show (k * 3 + 1) % 3 = 1 by omega] at h1
  rw [hl, show (k * 3 + 2) % 3 = 2 by omega] at h2
  exact ⟨h0, h1, h2⟩

set_option maxRecDepth 100000 in
set_option maxHeartbeats 4000000 in
theorem reads_ok (A : Option Addr) (c : Nat) (b : List UInt8) (w : World) (hrb : Rd w w.heap.size A (bv b)) (hbc : b.length ≤ c) (hbl : b.length ≤ 9223372036854775807) (hT : Tab w) (hT0 : 0 < w.heap.size) :
    Calls Tryd.prog 4 #[.slice A b.length c] w fun e w' => e = .returned (.bool true) ∧ Below w.heap.size w w' := by
  have HT := Hd.mk hT
  obtain ⟨b1, hb1⟩ : ∃ b1, b1 = b.take 65536 := ⟨_, rfl⟩
  have hb1l0 : b1.length ≤ 65536 := by rw [hb1]; simp; omega
  have hb1l : b1.length ≤ 140737488355328 := by omega
  have hb1c : b1.length ≤ c := by rw [hb1]; simp; omega
  have hrb1 : Rd w w.heap.size A (bv b1) := hrb.bvTake b1 ⟨_, hb1⟩
  have HRB := Hd.mk hrb1
  have hbig : (b1 = b ∧ ¬ 65536 < b.length) ∨ (b1.length = 65536 ∧ 65536 < b.length) := by
    by_cases h : 65536 < b.length
    · exact .inr ⟨by rw [hb1]; simp; omega, h⟩
    · exact .inl ⟨by rw [hb1, List.take_of_length_le (by omega)], h⟩
  have HBIG := Hd.mk hbig
  have hA65 : 65536 < b.length → ∃ q off, A = some ⟨q, off, none⟩ := fun h => by
    obtain ⟨q, off, e, _, _⟩ := hrb (by rw [bv_len]; omega)
    exact ⟨q, off, e⟩
  have HA65 := Hd.mk hA65
  clear hb1 hrb hrb1 hbig hA65 hT
  go_enter Tryd.func4, Tryd.ntmps4
  go_upto_if 17 with fail
  go_cut [0] (fun s0 wx => s0 = .slice A b1.length c ∧ wx = w)
  case first =>
    by_cases hbg : 65536 < b.length
    · obtain ⟨q, off, rfl⟩ := HA65.out hbg
      have HL : Hd (b1.length = 65536) := ⟨by rcases HBIG.out with ⟨_, h⟩ | ⟨h, _⟩; exact absurd hbg h; exact h⟩
      go_wp2_with fail
      go_meet
      exact ⟨by rw [HL.out], rfl⟩
    · have HL : Hd (b1 = b) := ⟨by rcases HBIG.out with ⟨h, _⟩ | ⟨_, h⟩; exact h; exact absurd h hbg⟩
      go_wp2_with fail
      go_meet
      exact ⟨by rw [HL.out], rfl⟩
  case rest =>
    obtain ⟨rfl, hwc⟩ := hcut
    rw [hwc]
    clear HBIG HA65 hwc
    obtain ⟨henc, hdec⟩ := encM_ok wf_small chk_small
    have hls := encM_small wf_small
    obtain ⟨fs, hfs⟩ : ∃ fs, frameB (encBody ⟨1, 3, 2, 0, [⟨1, 0, 0⟩]⟩) = fs := ⟨_, rfl⟩
    rw [hfs] at henc hdec
    rw [henc] at hls
    have hfl : fs.length ≤ 1048600 := hls
    have HENC := Hd.mk henc
    have HDEC := Hd.mk hdec
    clear henc hdec hls hfs
    go_wp2_with fail
    refine (small_ok _).mono ?_
    rintro e w1 ⟨A1, c1, rfl, ho1, hb1⟩
    have HE1 := Hd.mk hb1
    have HR1 := Hd.mk (Rd.of_own ho1)
    clear ho1 hb1
    go_wp2_with fail
    refine (refEncode_ok ⟨1, 3, 2, 0, [⟨1, 0, 0⟩]⟩ wf_small A1 c1 w1 HR1.out (by decide)).mono ?_
    rw [HENC.out]
    rintro e w2 hbt
    obtain ⟨Ac, cc, rfl, hoc, hb2⟩ := bt_flat hbt
    simp only [btL, btE] at hoc ⊢
    have hcc := own_cap0 hoc
    have HA2 : Hd (RdA w w2.heap.size Ac fs w2) := ⟨HE1.out.trans (hb2.mono HE1.out.size), Nat.le_refl _, by have := HE1.out.size; have := hb2.size; omega, Rd.of_own hoc⟩
    clear hbt hoc hb2 HE1 HR1
    go_wp2_with fail
    refine (decode_ok Ac cc fs w2 HA2.out.cB hcc (by omega) (HA2.out.tab HT.out hT0) (HA2.out.le0 hT0)).mono ?_
    rw [HDEC.out]
    rintro e w3 hmf
    obtain ⟨A3, c3, rfl, ho3, hb3⟩ := mf_flat hmf
    simp only [mfM, mfE] at ho3 ⊢
    have HA3 := Hd.mk (HA2.out.later hb3)
    have HO3 := Hd.mk (Rd.of_own ho3)
    clear hmf ho3 hb3
    go_upto_region 5 with fail
    have HM4 : Hd (RdM w w2.heap.size Ac fs w3.heap.size ⟨1, 3, 2, 0, [⟨1, 0, 0⟩]⟩ A3 c3 (w3.alloc (.cells #[.int .i64 1, .int .i64 3, .int .i64 2, .int .i64 0, .slice A3 1 c3] 24))) :=
      ⟨HA3.out.later ((Below.refl _ _).alloc (Nat.le_refl _) _), Blk.new _ _ _, rd_alloc HO3.out _⟩
    have hgm1 := HA3.out.le
    obtain ⟨gm, hgm⟩ : ∃ gm, w3.heap.size = gm := ⟨_, rfl⟩
    rw [hgm] at HM4 hgm1 ⊢
    clear hgm HA3 HO3
    generalize w3.alloc (.cells #[.int .i64 1, .int .i64 3, .int .i64 2, .int .i64 0, .slice A3 1 c3] 24) = w4 at *
    obtain ⟨-, t0, t1, t2, t3, t4, -⟩ := HM4.out.mb.five
    go_cut [41] (fun s41 wx => s41 = .bool false ∧ RdM w w2.heap.size Ac fs gm ⟨1, 3, 2, 0, [⟨1, 0, 0⟩]⟩ A3 c3 wx)
    case first =>
      go_region_held3 (fun w' => w'.cell? ⟨gm, 0, none⟩ = some (.int .i64 1) ∧ w'.cell? ⟨gm, 1, none⟩ = some (.int .i64 3) ∧ w'.cell? ⟨gm, 2, none⟩ = some (.int .i64 2) ∧ w'.cell? ⟨gm, 3, none⟩ = some (.int .i64 0) ∧ w'.cell? ⟨gm, 4, none⟩ = some (.slice A3 1 c3) ∧
          Hd (RdM w w2.heap.size Ac fs gm ⟨1, 3, 2, 0, [⟨1, 0, 0⟩]⟩ A3 c3 w'))
        (first
          | (go_keep; exact ⟨RdM.drew (Hd.out (by assumption))⟩)
          | exact ⟨t0x, t1x, t2x, t3x, t4x, HWx⟩)
        (first
          | (go_at_call 10; go_split_ands; refine (small_ok _).mono ?_; rintro e wa ⟨As, cs, rfl, hos, hba⟩; have HWx := Hd.mk (RdM.later (Hd.out (by assumption)) hba); have HRs := Hd.mk (Rd.of_own hos); clear hba hos; obtain ⟨-, t0x, t1x, t2x, t3x, t4x, -⟩ := HWx.out.mb.five)
          | (go_at_call 20; go_split_ands; refine (same_law ⟨1, 3, 2, 0, [⟨1, 0, 0⟩]⟩ A3 As c3 cs _ ?rd1 ?rd2 (by decide)).mono ?_; (case rd1 => exact RdM.rd (Hd.out (by assumption))); (case rd2 => first | exact HRs.out | exact rd_later HRs.out (Below.refl _ _).drew | exact rd_later HRs.out (Below.refl _ _).drew.drew); rintro e wb ⟨rfl, hbb⟩; have HWx := Hd.mk (RdM.later (Hd.out (by assumption)) hbb); clear hbb; obtain ⟨-, t0x, t1x, t2x, t3x, t4x, -⟩ := HWx.out.mb.five))
      all_goals (go_wp2_with fail; go_meet; exact ⟨rfl, Hd.out (by assumption)⟩)
    case rest =>
      obtain ⟨rfl, hM5⟩ := hcut
      have HM5 := Hd.mk hM5
      clear hM5 HM4 HA2
      go_wp2_with fail
      refine (laid_ok A c b1 wc (HM5.out.ra.rd HRB.out) (by omega)).mono ?_
      rintro e w6 ⟨g7, c7, rfl, ho6, hb6⟩
      have HM6 := Hd.mk (HM5.out.later hb6)
      have hgm6 : gm < wc.heap.size := HM5.out.mb.lt
      have hcap7 := own_cap ho6 (by omega)
      have HI6 := Hd.mk (own_low ho6 (show gm + 1 ≤ wc.heap.size by omega))
      have hg7 := (ho6.lt g7 rfl).2
      clear ho6 hb6
      go_wp2_with fail
      refine (decode_ok (some ⟨g7, 0, none⟩) c7 b1 w6 ((Rd.of_own HI6.out).bvTake b1 ⟨b1.length, by simp⟩) (by omega) hb1l (HM6.out.ra.tab HT.out hT0) (HM6.out.ra.le0 hT0)).mono ?_
      have hsl := decM_len (b := b1)
      obtain ⟨r, hr⟩ : ∃ r, decM b1 = r := ⟨_, rfl⟩
      rw [hr] at hsl ⊢
      have HDR := Hd.mk hr
      clear hr
      rintro e w7 hmf
      obtain ⟨Am, cm, rfl, ho7, hb7⟩ := mf_flat hmf
      have HM7 := Hd.mk (HM6.out.later hb7)
      have HI7 := Hd.mk (own_below HI6.out hb7)
      have HO7 := Hd.mk ho7
      have hs7 := hb7.size
      have hbk7 := fun q (hq : (Value.slice Am (mfM r).segs.length cm).ownBlock = some q) => ho7.lt q hq
      have HBK := Hd.mk hbk7
      obtain ⟨z0, z1, z2, z3, z4, z5, y1, y2, y3, y4, y5⟩ := HM7.out.mb.five
      clear hmf ho7 hb7 hbk7
      obtain ⟨mm, hmm⟩ : ∃ mm, mfM r = mm := ⟨_, rfl⟩
      obtain ⟨er, her⟩ : ∃ er, mfE r = er := ⟨_, rfl⟩
      rw [hmm] at HO7 HBK hsl ⊢
      rw [her]
      have HMM := Hd.mk hmm
      have HER := Hd.mk her
      have hne : (er != er) = false := by simp
      clear hmm her
      obtain ⟨mg, mv, mn, mt, ms⟩ := mm
      dsimp only at HO7 HBK hsl ⊢
      go_upto_if 68 with fail
      have hG8 : w7.grownBy (((((w7.setCell ⟨gm, 0, none⟩ (.int .i64 mg)).setCell ⟨gm, 1, none⟩ (.int .i64 mv)).setCell ⟨gm, 2, none⟩ (.int .i64 mn)).setCell ⟨gm, 3, none⟩ (.int .i64 mt)).setCell ⟨gm, 4, none⟩ (.slice Am ms.length cm)) (some gm) :=
        grown_set (grown_set (grown_set (grown_set (grown_set (World.grownBy.refl w7 _) 0 _) 1 _) 2 _) 3 _) 4 _
      have hz8 : (((((w7.setCell ⟨gm, 0, none⟩ (.int .i64 mg)).setCell ⟨gm, 1, none⟩ (.int .i64 mv)).setCell ⟨gm, 2, none⟩ (.int .i64 mn)).setCell ⟨gm, 3, none⟩ (.int .i64 mt)).setCell ⟨gm, 4, none⟩ (.slice Am ms.length cm)).heap.size = w7.heap.size := by simp [World.setCell]
      have hM8 := HM7.out.mb.five_set (.int .i64 mg) (.int .i64 mv) (.int .i64 mn) (.int .i64 mt) (.slice Am ms.length cm)
      have hI8 := own_five HI7.out (Nat.lt_succ_self gm) (.int .i64 mg) (.int .i64 mv) (.int .i64 mn) (.int .i64 mt) (.slice Am ms.length cm)
      have hO8 := own_five HO7.out (show gm < w6.heap.size by have := HM6.out.mb.lt; exact this) (.int .i64 mg) (.int .i64 mv) (.int .i64 mn) (.int .i64 mt) (.slice Am ms.length cm)
      have hb8 := below_five HM7.out.ra.below (show w.heap.size ≤ gm by have := HM7.out.ra.lo; omega) (.int .i64 mg) (.int .i64 mv) (.int .i64 mn) (.int .i64 mt) (.slice Am ms.length cm)
      have hc8 := rd_grown HM7.out.ra.cB HM7.out.ra.le hG8 (fun k hk => by cases hk; exact hgm1)
      generalize ((((w7.setCell ⟨gm, 0, none⟩ (.int .i64 mg)).setCell ⟨gm, 1, none⟩ (.int .i64 mv)).setCell ⟨gm, 2, none⟩ (.int .i64 mn)).setCell ⟨gm, 3, none⟩ (.int .i64 mt)).setCell ⟨gm, 4, none⟩ (.slice Am ms.length cm) = W8 at *
      have hn1 := HM7.out.ra.lo
      have hn3 : gm < w6.heap.size := HM6.out.mb.lt
      have HZ8 := Hd.mk hz8
      have HM8 := Hd.mk hM8
      have HI8 := Hd.mk hI8
      have HO8 := Hd.mk hO8
      have HB8 := Hd.mk hb8
      have HC8 := Hd.mk hc8
      clear hG8 hz8 hM8 hI8 hO8 hb8 hc8 HM7 HI7 HO7 HM6 HI6 HM5 z0 z1 z2 z3 z4 z5 y1 y2 y3 y4 y5 t0 t1 t2 t3 t4
      refine (refDecode_ok A c b1 W8 (rd_later HRB.out HB8.out) (by omega)).mono ?_
      rw [HDR.out]
      rintro e w9 hmf
      obtain ⟨Ak, ck, rfl, ho9, hb9⟩ := mf_flat hmf
      rw [HMM.out] at ho9 ⊢
      rw [HER.out]
      dsimp only at ho9 ⊢
      have hs9 := hb9.size
      rw [HZ8.out] at hs9
      have hK0 : Below W8.heap.size W8 (w9.alloc (.cells #[.int .i64 mg, .int .i64 mv, .int .i64 mn, .int .i64 mt, .slice Ak ms.length ck] 24)) := hb9.alloc (by rw [HZ8.out]; omega) _
      have HS10 : Hd (RdS w w2.heap.size gm w6.heap.size w7.heap.size Ac fs g7 b1 Am cm ⟨mg, mv, mn, mt, ms⟩ w9.heap.size Ak ck (w9.alloc (.cells #[.int .i64 mg, .int .i64 mv, .int .i64 mn, .int .i64 mt, .slice Ak ms.length ck] 24))) :=
        ⟨HB8.out.trans (hK0.mono HB8.out.size), hn1, hgm1, hn3, hs7, hs9, HC8.out.below hK0 (by rw [HZ8.out]; omega), rd_at (rd_later (Rd.of_own HI8.out) hK0) hg7, HM8.out.below hK0 HM8.out.lt, Blk.new _ _ _, own_low (ho9.alloc _) (by rw [HZ8.out]; exact Nat.le_refl _)⟩
      have HO10 := Hd.mk (own_below HO8.out hK0)
      clear hmf ho9 hb9 hK0 HM8 HI8 HO8 HC8 HB8
      go_upto_region 10 with fail
      obtain ⟨gk, hgk⟩ : ∃ gk, w9.heap.size = gk := ⟨_, rfl⟩
      rw [hgk] at HS10 ⊢
      clear hgk
      generalize w9.alloc (.cells #[.int .i64 mg, .int .i64 mv, .int .i64 mn, .int .i64 mt, .slice Ak ms.length ck] 24) = w10 at *
      obtain ⟨-, z0, z1, z2, z3, z4, -⟩ := HS10.out.mb.five
      obtain ⟨-, y0, y1, y2, y3, y4, -⟩ := HS10.out.kb.five
      go_upto_if 68 with fail
      refine (same_law ⟨mg, mv, mn, mt, ms⟩ Am Ak cm ck w10 (Rd.of_own HO10.out) (Rd.of_own HS10.out.kr) (by show ms.length ≤ _; omega)).mono ?_
      rintro e w11 ⟨rfl, hb11⟩
      have HS11 := Hd.mk (HS10.out.later hb11)
      have HO11 := Hd.mk (own_below HO10.out hb11)
      clear hb11
      go_upto_if 68 with fail
      refine (intact_ok A (some ⟨g7, 0, none⟩) c c7 _ b1 w11 HS11.out.rdI5 hcap7 (HS11.out.rd HRB.out) (by omega)).mono ?_
      rintro e w12 ⟨rfl, q12, rfl⟩
      have hb12 : Below w11.heap.size w11 (w11.drewN q12) := below_drewN (Below.refl _ _) _
      generalize w11.drewN q12 = w12 at *
      have hS12 := HS11.out.later hb12
      have hO12 := own_below HO11.out hb12
      go_upto_if 68 with fail
      go_cut [2] (fun _ wx => RdS w w2.heap.size gm w6.heap.size w7.heap.size Ac fs g7 b1 Am cm ⟨mg, mv, mn, mt, ms⟩ gk Ak ck wx ∧ wx.ownsRow w6.heap.size 45 3 (.slice Am ms.length cm) ms.length (svs ms))
      case first =>
        go_wp2_with fail
        go_meet
        exact ⟨hS12, hO12⟩
      case rest =>
        obtain ⟨hS, hO⟩ := hcut
        clear HS10 HS11 HO10 HO11 hS12 hO12 z0 z1 z2 z3 z4 y0 y1 y2 y3 y4
        have HS := Hd.mk (hS.later ((Below.refl _ _).alloc (Nat.le_refl _) (.cells #[.int .i64 (-7), .int .i64 0, .int .i64 0] 45)))
        have HO := Hd.mk (hO.alloc (.cells #[.int .i64 (-7), .int .i64 0, .int .i64 0] 45))
        have HK9 := Hd.mk (Blk.new wc 45 #[.int .i64 (-7), .int .i64 0, .int .i64 0])
        have h9 : w7.heap.size ≤ wc.heap.size := hS.hH2
        clear hS hO
        go_upto_region 13 with fail
        obtain ⟨g9, hg9⟩ : ∃ g9, wc.heap.size = g9 := ⟨_, rfl⟩
        rw [hg9] at HK9 h9 ⊢
        clear hg9
        generalize wc.alloc (.cells #[.int .i64 (-7), .int .i64 0, .int .i64 0] 45) = W0 at *
        go_wp2_with fail
        go_loopw [10] (fun i wr => ∃ k : Nat, k ≤ ms.length ∧ i = .int .i64 k ∧ wr.ownsRow w6.heap.size 45 3 (.slice Am ms.length cm) ms.length (svs (List.replicate k MK7 ++ ms.drop k)) ∧ W0.grownBy wr (Value.slice Am ms.length cm).ownBlock) (fun i _ => ms.length - (intOf i).toNat)
        case atStart => exact ⟨0, by omega, rfl, HO.out, World.grownBy.refl _ _⟩
        case round =>
          obtain ⟨k, hk, rfl, ho, hg⟩ := hrel
          have hS := HS.out.grown hg HBK.out
          have hK9 := HK9.out.grown hg (fun e => by have := (HBK.out _ e).2; omega)
          obtain ⟨-, z0, z1, z2, z3, z4, -⟩ := hS.mb.five
          have y0 := hK9.cell 0
          have y1 := hK9.cell 1
          have y2 := hK9.cell 2
          simp only [List.getElem?_toArray, List.getElem?_cons_zero, List.getElem?_cons_succ] at y0 y1 y2
          have HS1 := Hd.mk hS
          have HK1 := Hd.mk hK9
          clear hS hK9
          by_cases hlt : k < ms.length
          · obtain ⟨gb, e, hb0, hblt⟩ := own_pos ho (by omega)
            cases e
            have hlen : (svs (List.replicate k MK7 ++ ms.drop k)).length = ms.length * 3 := by rw [svs_len]; simp; omega
            have hc0 := ho.cellAt (k * 3) (by omega)
            have hc1 := ho.cellAt (k * 3 + 1) (by omega)
            have hc2 := ho.cellAt (k * 3 + 2) (by omega)
            rw [List.getElem?_eq_getElem (by omega)] at hc0 hc1 hc2
            generalize (svs (List.replicate k MK7 ++ ms.drop k))[k * 3]'(by omega) = x0 at hc0
            generalize (svs (List.replicate k MK7 ++ ms.drop k))[k * 3 + 1]'(by omega) = x1 at hc1
            generalize (svs (List.replicate k MK7 ++ ms.drop k))[k * 3 + 2]'(by omega) = x2 at hc2
            have hf0 := ho.frozenAt (k * 3)
            have hf1 := ho.frozenAt (k * 3 + 1)
            have hf2 := ho.frozenAt (k * 3 + 2)
            have HO := Hd.mk ho
            have HG := Hd.mk hg
            clear ho hg hlen
            go_wp2_with fail
            go_roundw
            case rel =>
              refine ⟨k + 1, by omega, by go_num, ?_, grown_set (grown_set (grown_set HG.out _ _) _ _) _ _⟩
              have h := (((HO.out.stored (k * 3) (.int .i64 (-7))).1.stored (k * 3 + 1) (.int .i64 0)).1.stored (k * 3 + 2) (.int .i64 0)).1
              rw [fill_seg ms k MK7 hlt] at h
              exact h
            case measure => simp [intOf]; omega
          · obtain rfl : k = ms.length := by omega
            rw [fill_segEnd] at ho
            have HO := Hd.mk ho
            have HG := Hd.mk hg
            clear ho hg
            go_upto_region 17 with fail
            have HT17 : Hd (RdT w w2.heap.size gm w6.heap.size w7.heap.size Ac fs g7 b1 Am cm ⟨mg, mv, mn, mt, ms⟩ gk Ak ck g9 wr) := ⟨HS1.out, HK1.out, h9, HBK.out, HO.out⟩
            have hone : ∀ u ∈ sv MK7, u.oneCell' = true := svs_one [MK7]
            have HONE := Hd.mk hone
            clear HS1 HK1 HO HG hone HS HK9
            go_cut [11, 12] (fun s11 s12 wx => ∃ A1 c1 A2 c2, s11 = .slice A1 (ms.length + 1) c1 ∧ s12 = .slice A2 (ms.length + 2) c2 ∧ RdT w w2.heap.size gm w6.heap.size w7.heap.size Ac fs g7 b1 Am cm ⟨mg, mv, mn, mt, ms⟩ gk Ak ck g9 wx ∧
                wx.ownsRow w6.heap.size 45 3 (.slice A1 (ms.length + 1) c1) (ms.length + 1) (mrep (sv MK7) (ms.length + 1)) ∧ wx.ownsRow w6.heap.size 45 3 (.slice A2 (ms.length + 2) c2) (ms.length + 2) (mrep (sv MK7) (ms.length + 2)))
            case first =>
              go_region_held3 (fun w' => w'.cell? ⟨gm, 4, none⟩ = some (.slice Am ms.length cm) ∧ w'.cell? ⟨g9, 0, none⟩ = some (.int .i64 (-7)) ∧ w'.cell? ⟨g9, 1, none⟩ = some (.int .i64 0) ∧ w'.cell? ⟨g9, 2, none⟩ = some (.int .i64 0) ∧
                  Hd (RdT w w2.heap.size gm w6.heap.size w7.heap.size Ac fs g7 b1 Am cm ⟨mg, mv, mn, mt, ms⟩ gk Ak ck g9 w'))
                ((refine RdT.S (m := ⟨mg, mv, mn, mt, ms⟩) ?_; repeat (first | exact HWx.out | exact HT17.out | refine RdT.drew ?_ | refine RdT.alloc ?_ _ | fail)))
                (first
                  | (go_split_ands; refine step_append_mark (mk := sv MK7) Tsg (by decide) HONE.out (by rfl) (.tmp 83) (.tmp 85) (by rfl) w6.heap.size (.slice Am ms.length cm) ms.length (by rfl) ?own _ 1 1 (by rfl) ?news (by omega) (by omega) ?base ?_; (case own => exact RdT.row (Hd.out (by assumption))); (case news => exact news3 (by (first | (go_simp; done) | (rw [hfa _ _ (by have := h9; have := HT17.out.rs.hH2; simp; omega) (by simp; omega)]; go_simp; done) | (go_simp; rw [hfa _ _ (by have := h9; have := HT17.out.rs.hH2; omega) (by simp)]; go_simp; done))) (by (first | (go_simp; done) | (rw [hfa _ _ (by have := h9; have := HT17.out.rs.hH2; simp; omega) (by simp; omega)]; go_simp; done) | (go_simp; rw [hfa _ _ (by have := h9; have := HT17.out.rs.hH2; omega) (by simp)]; go_simp; done))) (by (first | (go_simp; done) | (rw [hfa _ _ (by have := h9; have := HT17.out.rs.hH2; simp; omega) (by simp; omega)]; go_simp; done) | (go_simp; rw [hfa _ _ (by have := h9; have := HT17.out.rs.hH2; omega) (by simp)]; go_simp; done)))); (case base => exact RdT.h1 (Hd.out (by assumption))); intro Al1 cl1 wl1 ho hk hg; have hfa := RdT.far (Hd.out (by assumption)) hg; have HWx := Hd.mk (RdT.put (Hd.out (by assumption)) hg hk); have Hl1 := Hd.mk ho; (try first | (have Hl2 := Hd.mk (hk _ _ _ Hl2.out)) | (have Hl2 := Hd.mk (hk _ _ _ (Hl2.out.alloc _)))); clear ho hk hg; have t4x := (HWx.out.rs.mb.five).2.2.2.2.2.1; obtain ⟨-, k0x, k1x, k2x, -⟩ := HWx.out.k9.three)
                  | (go_split_ands; refine step_append_mark (mk := sv MK7) Tsg (by decide) HONE.out (by rfl) (.tmp 88) (.tmp 91) (by rfl) w6.heap.size (.slice Am ms.length cm) ms.length (by rfl) ?own _ 2 2 (by rfl) ?news (by omega) (by omega) ?base ?_; (case own => exact RdT.row (Hd.out (by assumption))); (case news => exact news6 (by (first | (go_simp; done) | (rw [hfa _ _ (by have := h9; have := HT17.out.rs.hH2; simp; omega) (by simp; omega)]; go_simp; done) | (go_simp; rw [hfa _ _ (by have := h9; have := HT17.out.rs.hH2; omega) (by simp)]; go_simp; done))) (by (first | (go_simp; done) | (rw [hfa _ _ (by have := h9; have := HT17.out.rs.hH2; simp; omega) (by simp; omega)]; go_simp; done) | (go_simp; rw [hfa _ _ (by have := h9; have := HT17.out.rs.hH2; omega) (by simp)]; go_simp; done))) (by (first | (go_simp; done) | (rw [hfa _ _ (by have := h9; have := HT17.out.rs.hH2; simp; omega) (by simp; omega)]; go_simp; done) | (go_simp; rw [hfa _ _ (by have := h9; have := HT17.out.rs.hH2; omega) (by simp)]; go_simp; done))) (by (first | (go_simp; done) | (rw [hfa _ _ (by have := h9; have := HT17.out.rs.hH2; simp; omega) (by simp; omega)]; go_simp; done) | (go_simp; rw [hfa _ _ (by have := h9; have := HT17.out.rs.hH2; omega) (by simp)]; go_simp; done))) (by (first | (go_simp; done) | (rw [hfa _ _ (by have := h9; have := HT17.out.rs.hH2; simp; omega) (by simp; omega)]; go_simp; done) | (go_simp; rw [hfa _ _ (by have := h9; have := HT17.out.rs.hH2; omega) (by simp)]; go_simp; done))) (by (first | (go_simp; done) | (rw [hfa _ _ (by have := h9; have := HT17.out.rs.hH2; simp; omega) (by simp; omega)]; go_simp; done) | (go_simp; rw [hfa _ _ (by have := h9; have := HT17.out.rs.hH2; omega) (by simp)]; go_simp; done)))); (case base => exact RdT.h1 (Hd.out (by assumption))); intro Al2 cl2 wl2 ho hk hg; have hfa := RdT.far (Hd.out (by assumption)) hg; have HWx := Hd.mk (RdT.put (Hd.out (by assumption)) hg hk); have Hl2 := Hd.mk ho; (try first | (have Hl1 := Hd.mk (hk _ _ _ Hl1.out)) | (have Hl1 := Hd.mk (hk _ _ _ (Hl1.out.alloc _)))); clear ho hk hg; have t4x := (HWx.out.rs.mb.five).2.2.2.2.2.1; obtain ⟨-, k0x, k1x, k2x, -⟩ := HWx.out.k9.three))
              all_goals (go_wp2_with fail; go_meet; exact ⟨_, _, _, _, rfl, rfl, HWx.out, Hl1.out, Hl2.out⟩)
            case rest =>
              obtain ⟨A1, c1, A2, c2, rfl, rfl, hT18, hL1, hL2⟩ := hcut
              have HT18 := Hd.mk hT18
              have HL1 := Hd.mk hL1
              have HL2 := Hd.mk hL2
              clear hT18 hL1 hL2 HT17
              obtain ⟨w18, hw18⟩ : ∃ w18, wc = w18 := ⟨_, rfl⟩
              rw [hw18] at HT18 HL1 HL2 ⊢
              clear hw18
              go_wp2_with fail
              refine (decode_ok Ac cc fs w18 HT18.out.rs.rdC hcc (by omega) (HT18.out.rs.tab HT.out hT0) (HT18.out.rs.le0 hT0)).mono ?_
              rw [HDEC.out]
              rintro e w19 hmf
              obtain ⟨An, cn, rfl, ho19, hb19⟩ := mf_flat hmf
              simp only [mfM, mfE] at ho19 ⊢
              have HN19 : Hd (NBx w18 w19.heap.size ⟨1, 3, 2, 0, [⟨1, 0, 0⟩]⟩ An cn (w19.alloc (.cells #[.int .i64 1, .int .i64 3, .int .i64 2, .int .i64 0, .slice An 1 cn] 24))) :=
                ⟨hb19.alloc hb19.size _, hb19.size, Blk.new _ _ _, rd_alloc (Rd.of_own ho19) _⟩
              clear hmf ho19 hb19
              go_upto_region 19 with fail
              obtain ⟨gn, hgn⟩ : ∃ gn, w19.heap.size = gn := ⟨_, rfl⟩
              rw [hgn] at HN19 ⊢
              clear hgn
              generalize w19.alloc (.cells #[.int .i64 1, .int .i64 3, .int .i64 2, .int .i64 0, .slice An 1 cn] 24) = w20 at *
              go_cut [105] (fun s105 wx => s105 = .bool false ∧ NBx w18 gn ⟨1, 3, 2, 0, [⟨1, 0, 0⟩]⟩ An cn wx)
              case first =>
                go_region_held3 (fun w' => w'.cell? ⟨gn, 0, none⟩ = some (.int .i64 1) ∧ w'.cell? ⟨gn, 1, none⟩ = some (.int .i64 3) ∧ w'.cell? ⟨gn, 2, none⟩ = some (.int .i64 2) ∧ w'.cell? ⟨gn, 3, none⟩ = some (.int .i64 0) ∧ w'.cell? ⟨gn, 4, none⟩ = some (.slice An 1 cn) ∧
                    Hd (NBx w18 gn ⟨1, 3, 2, 0, [⟨1, 0, 0⟩]⟩ An cn w'))
                  ((refine NBx.S (m := ⟨1, 3, 2, 0, [⟨1, 0, 0⟩]⟩) ?_; repeat (first | exact HWx.out | exact HN19.out | refine NBx.drew ?_ | fail)))
                  (first
                    | (go_at_call 10; go_split_ands; refine (small_ok _).mono ?_; rintro e wa ⟨As, cs, rfl, hos, hba⟩; have HWx := Hd.mk (NBx.later (Hd.out (by assumption)) hba); have HRs := Hd.mk (Rd.of_own hos); clear hba hos)
                    | (go_at_call 20; go_split_ands; refine (same_law ⟨1, 3, 2, 0, [⟨1, 0, 0⟩]⟩ An As cn cs _ ?rd1 ?rd2 (by decide)).mono ?_; (case rd1 => exact NBx.rd (Hd.out (by assumption))); (case rd2 => first | exact HRs.out | exact rd_later HRs.out (Below.refl _ _).drew | exact rd_later HRs.out (Below.refl _ _).drew.drew); rintro e wb ⟨rfl, hbb⟩; have HWx := Hd.mk (NBx.later (Hd.out (by assumption)) hbb); clear hbb))
                all_goals (go_wp2_with fail; go_meet; exact ⟨rfl, Hd.out (by assumption)⟩)
              case rest =>
                obtain ⟨rfl, hN21⟩ := hcut
                have HN21 := Hd.mk hN21
                have HT21 := Hd.mk (HT18.out.later hN21.below)
                clear hN21 HN19
                go_wp2_with fail
                refine (decode_ok (some ⟨g7, 0, none⟩) c7 b1 wc HT21.out.rs.rdI (by omega) hb1l (HT21.out.rs.tab HT.out hT0) (HT21.out.rs.le0 hT0)).mono ?_
                rw [HDR.out]
                rintro e w22 hmf
                obtain ⟨Aq, cq, rfl, ho22, hb22⟩ := mf_flat hmf
                rw [HMM.out] at ho22 ⊢
                rw [HER.out]
                dsimp only at ho22 ⊢
                have hN22 := HN21.out.later hb22
                obtain ⟨z0, z1, z2, z3, z4, z5, y1, y2, y3, y4, y5⟩ := hN22.mb.five
                have hM23 := hN22.mb.five_set (.int .i64 mg) (.int .i64 mv) (.int .i64 mn) (.int .i64 mt) (.slice Aq ms.length cq)
                have hO23 := own_five ho22 (show gn < wc.heap.size from HN21.out.mb.lt) (.int .i64 mg) (.int .i64 mv) (.int .i64 mn) (.int .i64 mt) (.slice Aq ms.length cq)
                have hb23 := below_five hN22.below hN22.lo (.int .i64 mg) (.int .i64 mv) (.int .i64 mn) (.int .i64 mt) (.slice Aq ms.length cq)
                have HM23 := Hd.mk hM23
                have HO23 := Hd.mk hO23
                have HB23 := Hd.mk hb23
                clear hmf ho22 hb22 hN22 hM23 hO23 hb23
                go_upto_region 22 with fail
                generalize ((((w22.setCell ⟨gn, 0, none⟩ (.int .i64 mg)).setCell ⟨gn, 1, none⟩ (.int .i64 mv)).setCell ⟨gn, 2, none⟩ (.int .i64 mn)).setCell ⟨gn, 3, none⟩ (.int .i64 mt)).setCell ⟨gn, 4, none⟩ (.slice Aq ms.length cq) = w23 at *
                clear z0 z1 z2 z3 z4 z5 y1 y2 y3 y4 y5
                have HT23 := Hd.mk (HT18.out.later HB23.out)
                obtain ⟨-, z0, z1, z2, z3, z4, -⟩ := HM23.out.five
                obtain ⟨-, y0, y1, y2, y3, y4, -⟩ := HT23.out.rs.kb.five
                go_wp2_with fail
                refine (same_law ⟨mg, mv, mn, mt, ms⟩ Aq Ak cq ck w23 (Rd.of_own HO23.out) (Rd.of_own HT23.out.rs.kr) (by show ms.length ≤ _; omega)).mono ?_
                rintro e w24 ⟨rfl, hb24⟩
                have HB24 := Hd.mk (HB23.out.trans (hb24.mono HB23.out.size))
                clear hb24
                go_wp2_with fail
                have HT24 := Hd.mk (HT18.out.later HB24.out)
                have HL1 := Hd.mk (own_below HL1.out HB24.out)
                have HL2 := Hd.mk (own_below HL2.out HB24.out)
                clear HT23 HT21 HN21 HM23 HO23 HB23 z0 z1 z2 z3 z4 y0 y1 y2 y3 y4
                have hn12 : ms.length + 1 < ms.length + 2 := by omega
                have hn2 : ms.length + 2 ≤ 140737488355328 := by omega
                have hpos : 0 < ms.length + 1 := by omega
                generalize ms.length + 2 = n2 at *
                generalize ms.length + 1 = n1 at *
                obtain ⟨g1, e, -, -⟩ := own_pos HL1.out hpos
                cases e
                obtain ⟨g2, e, -, -⟩ := own_pos HL2.out (by omega)
                cases e
                go_wp2_with fail
                go_loopw [14] (fun i wr => ∃ k q : Nat, k ≤ n2 ∧ i = .int .i64 k ∧ wr = w24.drewN q) (fun i _ => n2 - (intOf i).toNat)
                case atStart => exact ⟨0, 0, by omega, rfl, rfl⟩
                case round =>
                  obtain ⟨k, q, hk, rfl, rfl⟩ := hrel
                  by_cases hlt : k < n2
                  · obtain ⟨q0, q1, q2⟩ := mark_cells HL2.out hlt
                    have k0 := HT24.out.k9.cell 0
                    have k1 := HT24.out.k9.cell 1
                    have k2 := HT24.out.k9.cell 2
                    simp only [List.getElem?_toArray, List.getElem?_cons_zero, List.getElem?_cons_succ] at k0 k1 k2
                    have i1 : (0 : Int) ≤ (k : Int) ∧ (k : Int) < n2 := by omega
                    by_cases hl1 : k < n1
                    · obtain ⟨p0, p1, p2⟩ := mark_cells HL1.out hl1
                      have i2 : (0 : Int) ≤ (k : Int) ∧ (k : Int) < n1 := by omega
                      have hd1 : decide ((k : Int) < (n1 : Int)) = true := by simpa using hl1
                      go_wp2_with fail
                      go_quiet (fail)
                      go_wp2_with fail
                      go_roundw
                      case rel => exact ⟨k + 1, _, by omega, by go_num, rfl⟩
                      case measure => simp [intOf]; omega
                    · have hd1 : decide ((k : Int) < (n1 : Int)) = false := by simpa using hl1
                      go_wp2_with fail
                      go_quiet (fail)
                      go_wp2_with fail
                      go_roundw
                      case rel => exact ⟨k + 1, _, by omega, by go_num, rfl⟩
                      case measure => simp [intOf]; omega
                  · go_wp2_with fail
                    go_ret
                    exact ⟨rfl, below_drewN HT24.out.rs.below _⟩
end Go.Proofs.YtamodllgeabpoaaDoor
