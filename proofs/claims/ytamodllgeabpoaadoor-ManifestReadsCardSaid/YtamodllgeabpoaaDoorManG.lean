/- Contracts: manifest.Decode, a frame that holds a body. -/
import Derived.Test.YtamodllgeabpoaaDoorManF
import Derived.Deep.RegionLaw
namespace Go.Proofs.YtamodllgeabpoaaDoor
open Go.RowKit

/-- app_rd, as a step of a region that draws -/
theorem step_app {P : Program} {t e : TypeId} {size bytes : Nat} (T : SlT P t e size bytes) {ops : Array Oper} {o : Oper} {a : Act} {w : World} {K : Act → World → Prop} {Q : Exit → Act → World → Prop} {E : Prop} (s x : Operand)
    (hgd : o.guard = none) (ho : o.op = .call { callee := .builtin .append, args := #[s, x], argTypes := #[t, t] })
    (base : Nat) (v : Value) (n : Nat) (xs : List Value) (hs : a.eval s = v) (hown : w.ownsRow base e size v n xs)
    (B : Nat) (A : Option Addr) (m c : Nat) (news : List Value) (hx : a.eval x = .slice A m c) (hr : Rd w B A news) (hl : news.length = m * size) (h1 : ∀ u ∈ news, u.oneCell' = true)
    (hbytes : (n + m) * bytes ≤ 140737488355328) (hbase : base ≤ w.heap.size) (hsz : 0 < size) (hb0 : 0 < bytes)
    (h : ∀ A' c' w', w'.ownsRow base e size (.slice A' (n + m) c') (n + m) (xs ++ news) → Below base w w' → w.grownBy w' v.ownBlock →
      ((Value.slice A' (n + m) c').ownBlock = v.ownBlock ∨ (Value.slice A' (n + m) c').ownBlock = some w.heap.size) → K (a.put o.dst (.slice A' (n + m) c')) w') :
    if Region.wanted o (yielded ops a.tmps) = true then Oper.wp P o a w K Q else E := by
  have hw : Region.wanted o (yielded ops a.tmps) = true := by simp [Region.wanted, hgd]
  rw [if_pos hw]
  obtain ⟨A', c', w', hrun, h2, h3, h4⟩ := T.run_append hsz o.type base v n xs hown B A m c news hl hr h1 hbytes hb0 hbase
  have := h A' c' w' h2 ((Below.refl _ _).grown h3 hbase fun k hk => (hown.lt k hk).1) h3 h4
  unfold Oper.wp execOp
  simp only [ho, resolve, invoke, builtin, Sem.run_bind, Sem.run_pure, Result.andThen_ok, List.map_toArray, List.map_cons, List.map_nil, hs, hx, hrun]
  exact this

/-- how the five heads bear on the whole -/
theorem dec_heads {l : List UInt8} {n1 n2 n3 n4 n5 p1 p2 p3 p4 p5 : Nat} {e1 e2 e3 e4 e5 : Int} (h1 : nx l 1 0 = (n1, p1, e1)) (h2 : nx l p1 e1 = (n2, p2, e2)) (h3 : nx l p2 e2 = (n3, p3, e3)) (h4 : nx l p3 e3 = (n4, p4, e4)) (h5 : nx l p4 e4 = (n5, p5, e5)) :
    ∃ R, SegAt l R n5 0 p5 e5 [] ∧ decBody l = R.bind fun (segs, p) =>
      if p ≠ l.length then .error 85
      else if chkM ⟨n1, n2, n3, n4, segs⟩ ≠ 0 then .error (chkM ⟨n1, n2, n3, n4, segs⟩)
      else .ok ⟨n1, n2, n3, n4, segs⟩ := by
  have k := heads_nx h5 0 [n1, n2, n3, n4] _ (heads_nx h4 1 [n1, n2, n3] _ (heads_nx h3 2 [n1, n2] _ (heads_nx h2 3 [n1] _ (heads_nx h1 4 [] (rdHeads l 5 1 []) (by rw [if_pos rfl])))))
  by_cases h0 : e5 = 0
  · rw [if_pos h0] at k
    refine ⟨rdSegs l n5 0 p5 [], by unfold SegAt; rw [if_pos h0], ?_⟩
    unfold decBody
    rw [k]
    rfl
  · rw [if_neg h0] at k
    refine ⟨.error e5, by unfold SegAt; rw [if_neg h0], ?_⟩
    unfold decBody
    rw [k]
    rfl
/-- what is left after the segments -/
def decEnd (l : List UInt8) (n1 n2 n3 n4 : Nat) : List Sg × Nat → Except Int Mf := fun (segs, p) =>
      if p ≠ l.length then .error 85
      else if chkM ⟨n1, n2, n3, n4, segs⟩ ≠ 0 then .error (chkM ⟨n1, n2, n3, n4, segs⟩)
      else .ok ⟨n1, n2, n3, n4, segs⟩

theorem Blk.three {w : World} {g : Nat} {t : TypeId} {a b c : Value} (h : Blk w g t #[a, b, c]) : g < w.heap.size ∧ w.cell? ⟨g, 0, none⟩ = some a ∧ w.cell? ⟨g, 1, none⟩ = some b ∧ w.cell? ⟨g, 2, none⟩ = some c ∧ w.frozen? ⟨g, 0, none⟩ = false ∧ w.frozen? ⟨g, 1, none⟩ = false ∧ w.frozen? ⟨g, 2, none⟩ = false :=
  ⟨h.lt, h.cell 0, h.cell 1, h.cell 2, h.frozen 0, h.frozen 1, h.frozen 2⟩
theorem own_not_low {w : World} {base g : Nat} {e : TypeId} {size n : Nat} {v : Value} {xs : List Value} (h : w.ownsRow base e size v n xs) (hg : g < base) : v.ownBlock = none ∨ v.ownBlock ≠ some g := by
  cases hq : v.ownBlock with
  | none => exact .inl rfl
  | some q => refine .inr fun hh => ?_; have := (h.lt q hq).1; injection hh with hh; omega
abbrev NB (w : World) (g : Nat) (A : Option Addr) (n c : Nat) (p : Nat) (e : Int) : Prop := Blk w g 84 #[.slice A n c, .int .i64 p, .int .i64 e]

/-- the memory of Decode at work: the reader of numbers, the manifest as far as it is read, the row of its segments, the body -/
structure DS (w1 : World) (gm gb goff c1 : Nat) (l : List UInt8) (v1 v2 v3 v4 : Nat) (A3 : Option Addr) (n3 c3 : Nat) (segs : List Sg) (p : Nat) (e : Int) (w : World) : Prop where
  nb : NB w w1.heap.size (some ⟨gb, goff, none⟩) l.length c1 p e
  mb : Blk w gm 24 #[.int .i64 v1, .int .i64 v2, .int .i64 v3, .int .i64 v4, .slice A3 n3 c3]
  own : w.ownsRow (gm + 1) 45 3 (.slice A3 n3 c3) n3 (svs segs)
  rd : Rd w w1.heap.size (some ⟨gb, goff, none⟩) (bv l)
  below : Below w1.heap.size w1 w
section
variable {w1 w : World} {gm gb goff c1 : Nat} {l : List UInt8} {v1 v2 v3 v4 : Nat} {A3 : Option Addr} {n3 c3 : Nat} {segs : List Sg} {p : Nat} {e : Int}
theorem DS.turn (h : DS w1 gm gb goff c1 l v1 v2 v3 v4 A3 n3 c3 segs p e w) (hg : w1.heap.size < gm) {w' : World} {p' : Nat} {e' : Int} (hk : w.grownBy w' (some w1.heap.size)) (hn : NB w' w1.heap.size (some ⟨gb, goff, none⟩) l.length c1 p' e') :
    DS w1 gm gb goff c1 l v1 v2 v3 v4 A3 n3 c3 segs p' e' w' :=
  ⟨hn, h.mb.grown hk (by intro e; injection e with e; omega), h.own.kept hk (own_not_low h.own (by omega)), h.rd.grown hk (Nat.le_refl _), h.below.grown hk (Nat.le_of_lt h.nb.lt) (by intro k hk; injection hk with hk; omega)⟩
theorem DS.bad (h : DS w1 gm gb goff c1 l v1 v2 v3 v4 A3 n3 c3 segs p e w) (hg : w1.heap.size < gm) (er : Int) : DS w1 gm gb goff c1 l v1 v2 v3 v4 A3 n3 c3 segs p er (w.setCell ⟨w1.heap.size, 2, none⟩ (.int .i64 er)) :=
  h.turn hg (grown_set (World.grownBy.refl w _) 2 _) (h.nb.set_ 2 _)
theorem DS.drew (h : DS w1 gm gb goff c1 l v1 v2 v3 v4 A3 n3 c3 segs p e w) : DS w1 gm gb goff c1 l v1 v2 v3 v4 A3 n3 c3 segs p e w.drew := ⟨h.nb, h.mb, h.own, h.rd, h.below.drew⟩
theorem DS.mid (h : DS w1 gm gb goff c1 l v1 v2 v3 v4 A3 n3 c3 segs p e w) {w' : World} (hk : Below (gm + 1) w w') : Blk w' gm 24 #[.int .i64 v1, .int .i64 v2, .int .i64 v3, .int .i64 v4, .slice A3 n3 c3] := h.mb.below hk (Nat.lt_succ_self _)
theorem DS.push (h : DS w1 gm gb goff c1 l v1 v2 v3 v4 A3 n3 c3 segs p e w) (hg : w1.heap.size < gm) {w' : World} {A4 : Option Addr} {n4 c4 : Nat} {segs' : List Sg} (hk : Below (gm + 1) w w') (ho : w'.ownsRow (gm + 1) 45 3 (.slice A4 n4 c4) n4 (svs segs')) :
    DS w1 gm gb goff c1 l v1 v2 v3 v4 A4 n4 c4 segs' p e (w'.setCell ⟨gm, 4, none⟩ (.slice A4 n4 c4)) :=
  ⟨(h.nb.below hk (by omega)).far (by show w1.heap.size ≠ gm; omega) _, (h.mid hk).set_ 4 _, ho.kept (row := some gm) (grown_set (World.grownBy.refl w' _) 4 _) (own_not_low ho (by omega)),
    Rd.below (h.rd.below hk (by omega)) ((Below.refl w1.heap.size w').setCell (by show w1.heap.size ≤ gm; omega) _) (Nat.le_refl _), (h.below.trans (hk.mono (by omega))).setCell (by show w1.heap.size ≤ gm; omega) _⟩
theorem DS.later (h : DS w1 gm gb goff c1 l v1 v2 v3 v4 A3 n3 c3 segs p e w) {w' : World} (hk : Below w.heap.size w w') (_hg : w1.heap.size < gm) : DS w1 gm gb goff c1 l v1 v2 v3 v4 A3 n3 c3 segs p e w' :=
  ⟨h.nb.below hk h.nb.lt, h.mb.below hk h.mb.lt, own_below h.own hk, h.rd.below hk (Nat.le_of_lt h.nb.lt), h.below.trans (hk.mono (Nat.le_of_lt h.nb.lt))⟩
theorem DS.next (h : DS w1 gm gb goff c1 l v1 v2 v3 v4 A3 n3 c3 segs p e w) (hg : w1.heap.size < gm) (hl : l.length ≤ 1048576) (hp : p ≤ l.length) :
    Calls Tryd.prog 44 #[.pointer (some ⟨w1.heap.size, 0, none⟩)] w fun r w' => ∃ n p' e', r = .returned (.int .i64 (n : Nat)) ∧ DS w1 gm gb goff c1 l v1 v2 v3 v4 A3 n3 c3 segs p' e' w' ∧ n ≤ 9223372036854775807 ∧ p' ≤ l.length ∧ Hd (nx l p e = (n, p', e')) := by
  refine (next_ok (some ⟨gb, goff, none⟩) c1 w1.heap.size l p e w h.rd (by omega) (by omega) h.nb).mono ?_
  rintro r w' ⟨n, p', e', rfl, hn, hk, h1, h2, h3⟩
  exact ⟨n, p', e', rfl, h.turn hg hk hn, h1, by omega, h3⟩
end

set_option maxRecDepth 100000 in
set_option maxHeartbeats 8000000 in
theorem decode_good (A : Option Addr) (c : Nat) (b l : List UInt8) (w : World) (hr : Rd w w.heap.size A (bv b)) (hcap : b.length ≤ c) (hl : b.length ≤ 140737488355328) (hT : Tab w) (h0 : 0 < w.heap.size)
    (hu : rdFrame b 0 = .ok (l, b.length)) (h77 : l.getD 0 0 = 77) :
    Calls Tryd.prog 19 #[.slice A b.length c] w (MfPost w (decM b)) := by
  have hb0 : Below w.heap.size w (w.alloc (.cells #[.int .i64 0, .int .i64 0, .int .i64 0, .int .i64 0, .slice none 0 0] 24)) := (Below.refl _ _).alloc (Nat.le_refl _) _
  have hF := readFrame_ok A c b 0 _ ((hr.below hb0 (Nat.le_refl _)).more hb0.size) hcap hl (by omega) (hT.below hb0 h0) (Nat.lt_of_lt_of_le h0 hb0.size)
  have HB0 := Hd.mk hb0
  obtain ⟨k1, k2, k3, k4⟩ := rdFrame_ok hu
  have HN := Hd.mk (show decM b = decBody l by unfold decM; rw [hu]; simp only [Except.bind]; rw [if_neg (by rw [h77]; simp)])
  rw [hu] at hF
  have HF := Hd.mk hF
  rw [getD_get l 0 k1] at h77
  have hx : (bv l)[0]? = some (.int .u8 77) := by rw [bv_get l 0 k1, h77]; rfl
  clear hF hu hr hT hb0 h77
  go_enter Tryd.func19, Tryd.ntmps19
  go_wp2_with (first
    | (go_at_call 43; refine HF.out.mono ?_; rintro e w1 ⟨-, hk, hb1⟩; obtain ⟨A1, c1, rfl, hf⟩ := hk _ _ rfl; clear hk; obtain ⟨gb, goff, rfl, hgb, hcell⟩ := hf.rd.at_ hx; rw [Nat.add_zero] at hcell;
        have hra := (hf.rd.below ((Below.refl _ _).alloc (Nat.le_refl _) (.cells #[.slice (some ⟨gb, goff, none⟩) l.length c1, .int .i64 1, .int .i64 0] 84)) (Nat.le_refl _));
        have hna : NB _ _ _ _ _ 1 0 := Blk.new w1 84 #[.slice (some ⟨gb, goff, none⟩) l.length c1, .int .i64 1, .int .i64 0])
    | (go_at_call 44; refine (next_ok _ c1 _ l p4 e4 _ ((hra.grown hgr4 (Nat.le_refl _)).below hbm hz5) (by omega) (by omega) (hn4.alloc _)).mono ?_; rintro r w6 ⟨v5, p5, e5, rfl, hn5, hg5, hv5, hp5, H5⟩)
    | (go_at_call 44; refine (next_ok _ c1 _ l p3 e3 _ (hra.grown hgr3 (Nat.le_refl _)) (by omega) (by omega) hn3).mono ?_; rintro r w5 ⟨v4, p4, e4, rfl, hn4, hg4, hv4, hp4, H4⟩; have hgr4 := hgr3.trans hg4; have hz5 : w1.heap.size ≤ w5.heap.size := Nat.le_of_lt hn4.lt; have hbm : Below w5.heap.size w5 (w5.alloc (.cells #[.int .i64 v1, .int .i64 v2, .int .i64 v3, .int .i64 v4, .slice none 0 0] 24)) := (Below.refl _ _).alloc (Nat.le_refl _) _)
    | (go_at_call 44; refine (next_ok _ c1 _ l p2 e2 _ (hra.grown hgr2 (Nat.le_refl _)) (by omega) (by omega) hn2).mono ?_; rintro r w4 ⟨v3, p3, e3, rfl, hn3, hg3, hv3, hp3, H3⟩; have hgr3 := hgr2.trans hg3)
    | (go_at_call 44; refine (next_ok _ c1 _ l p1 e1 _ (hra.grown hgr1 (Nat.le_refl _)) (by omega) (by omega) hn1).mono ?_; rintro r w3 ⟨v2, p2, e2, rfl, hn2, hg2, hv2, hp2, H2⟩; have hgr2 := hgr1.trans hg2)
    | (go_at_call 44; refine (next_ok _ c1 _ l 1 0 _ hra (by omega) (by omega) hna).mono ?_; rintro r w2 ⟨v1, p1, e1, rfl, hn1, hgr1, hv1, hp1, H1⟩))
  obtain ⟨R, hR1, hR2⟩ := dec_heads H1.out H2.out H3.out H4.out H5.out
  have HR1 := Hd.mk hR1
  have HR2 := Hd.mk hR2
  clear hR1 hR2 H1 H2 H3 H4 H5
  have hbw : Below w1.heap.size w1 w6 := (((Below.refl _ _).alloc (Nat.le_refl _) _).grown hgr4 (by simp) (by intro k hk; injection hk with hk; omega)).trans (((hbm.mono hz5)).grown hg5 (by simp; omega) (by intro k hk; injection hk with hk; omega))
  have hz6 : w5.heap.size < w6.heap.size := by have := hg5.size; simp at this; omega
  have hm6 : Blk w6 w5.heap.size 24 #[.int .i64 v1, .int .i64 v2, .int .i64 v3, .int .i64 v4, .slice none 0 0] := (Blk.new w5 _ _).grown hg5 (by have := hn4.lt; intro e; injection e with e; omega)
  have hg14 : w1.heap.size < w5.heap.size := hn4.lt
  have hra6 : Rd w6 w1.heap.size (some ⟨gb, goff, none⟩) (bv l) := ((hra.grown hgr4 (Nat.le_refl _)).below hbm hz5).grown hg5 (Nat.le_refl _)
  have hp5' : p5 ≤ l.length := by omega
  clear hn1 hn2 hn3 hn4 hg2 hg3 hg4 hg5 hgr1 hgr2 hgr3 hgr4 hp1 hp2 hp3 hp4 hp5 hra hna hbm hcell hf
  have hR0 : Blk w1 w.heap.size 24 #[.int .i64 0, .int .i64 0, .int .i64 0, .int .i64 0, .slice none 0 0] := (Blk.new w _ _).below hb1 (by simp)
  have HBW : Hd (Below w.heap.size w w1) := ⟨HB0.out.trans (hb1.mono HB0.out.size)⟩
  have hw1 : w.heap.size < w1.heap.size := hR0.lt
  have HR0 := Hd.mk hR0
  clear hb1 hR0 HB0
  have hds : DS w1 w5.heap.size gb goff c1 l v1 v2 v3 v4 none 0 0 [] p5 e5 w6 := ⟨hn5, hm6, World.ownsRow_nil _ _ _ _, hra6, hbw⟩
  clear hn5 hm6 hra6 hbw hz6
  go_loopw [9, 10] (fun left bsv wr => ∃ (k base p n3 c3 : Nat) (bs e : Int) (A3 : Option Addr) (segs : List Sg), left = .int .i64 k ∧ bsv = .int .i64 bs ∧ DS w1 w5.heap.size gb goff c1 l v1 v2 v3 v4 A3 n3 c3 segs p e wr ∧
      p ≤ l.length ∧ k ≤ 9223372036854775807 ∧ n3 ≤ l.length + 1 ∧ (e = 0 → bs = base ∧ base ≤ 9223372036854775807 ∧ n3 * 3 ≤ p) ∧ Hd (SegAt l R k base p e segs)) (fun left _ _ => (intOf left).toNat)
  case atStart => exact ⟨v5, 0, p5, 0, 0, 0, e5, none, [], rfl, rfl, hds, hp5', hv5, by omega, fun _ => ⟨rfl, by omega, by omega⟩, HR1⟩
  case round =>
    obtain ⟨k, base, p, n3, c3, bs, e, A3, segs, rfl, rfl, hD, hp, hk, hn3, hst, HS⟩ := hrel
    have HD := Hd.mk hD
    obtain ⟨hNlt, q0, q1, q2, f0, f1, f2⟩ := hD.nb.three
    obtain ⟨hMlt, m0, m1, m2, m3, m4, g0, g1, g2, g3, g4⟩ := hD.mb.five
    clear hD
    by_cases hlt : 0 < k
    · by_cases he : e = 0
      · subst he
        obtain ⟨rfl, hbs, h3p⟩ := hst rfl
        clear hst
        obtain ⟨j, rfl⟩ : ∃ j, k = j + 1 := ⟨k - 1, by omega⟩
        go_wp2_with (first
          | (go_at_call 44; refine (HD.out.next hg14 k2 hp).mono ?_; rintro r wa ⟨na, pa, ea, rfl, hDa, hva, hpa, Ha⟩; obtain ⟨hNlta, qa0, qa1, qa2, fa0, fa1, fa2⟩ := hDa.nb.three; obtain ⟨z, hz⟩ : ∃ z : Bool, (ea == 0) = z := ⟨_, rfl⟩; have HDa := Hd.mk hDa; clear hDa))
        · obtain ⟨e2, HDb, H2, H5⟩ : ∃ e2 : Int, Hd (DS w1 w5.heap.size gb goff c1 l v1 v2 v3 v4 A3 n3 c3 segs pa e2 (wa.setCell ⟨w1.heap.size, 2, none⟩ (.int .i64 85))) ∧ Hd (e2 = if ea = 0 ∧ 9223372036854775807 - base < na then 85 else ea) ∧ Hd (e2 = 0 → wrap64 ((base : Int) + na) = (na : Int) + base) :=
            ⟨85, ⟨HDa.out.bad hg14 85⟩, ⟨by rw [if_pos ⟨beq_iff_eq.1 (hz.trans (by assumption)), by omega⟩]⟩, ⟨fun h => (by omega)⟩⟩
          clear hz HD HDa m0 m1 m2 m3 m4 g0 g1 g2 g3 g4 q0 q1 q2 f0 f1 f2 qa0 qa1 qa2 fa0 fa1 fa2 hNlt hMlt hNlta
          generalize wrap64 ((base : Int) + na) = bs2 at *
          generalize wa.setCell ⟨w1.heap.size, 2, none⟩ (.int .i64 85) = wb at *
          obtain ⟨hMb, mb0, mb1, mb2, mb3, mb4, gb0, gb1, gb2, gb3, gb4⟩ := HDb.out.mb.five
          go_region_law (first
            | (refine step_app Tsg (.tmp 78) (.tmp 85) rfl rfl (w5.heap.size + 1) (.slice A3 n3 c3) n3 (svs segs) rfl (HDd.out.own.alloc _) (wd.heap.size + 1) _ 1 1 (svs [⟨bs2, nb, nc⟩]) rfl (Rd.lit wd _ _) rfl (svs_one _) (by omega) (by simp; omega) (by omega) (by omega) ?_; intro A4 c4 w4 ho4 hb4 hg4 ha4; have HK4 := Hd.mk ((((Below.refl (w5.heap.size + 1) wd).alloc (by have := HDd.out.mb.lt; omega) _).trans hb4)); have HO4 := Hd.mk ho4; clear ho4 hb4 hg4 ha4; obtain ⟨hMe, me0, me1, me2, me3, me4, ge0, ge1, ge2, ge3, ge4⟩ := (HDd.out.mid HK4.out).five)
            | (go_simp; go_at_call 44; refine (HDb.out.drew.next hg14 k2 hpa).mono ?_; rintro r wc ⟨nb, pb, eb, rfl, hDc, hvc, hpb, Hb⟩; have HDc := Hd.mk hDc; obtain ⟨hMc, mc0, mc1, mc2, mc3, mc4, gc0, gc1, gc2, gc3, gc4⟩ := hDc.mb.five; clear hDc)
            | (go_simp; go_at_call 44; refine (HDc.out.next hg14 k2 hpb).mono ?_; rintro r wd ⟨nc, pc, ec, rfl, hDd, hvd, hpc, Hc⟩; have HDd := Hd.mk hDd; obtain ⟨hMd, md0, md1, md2, md3, md4, gd0, gd1, gd2, gd3, gd4⟩ := hDd.mb.five; clear hDd))
          all_goals
            go_wp2_with fail
            go_roundw
            case rel =>
              obtain ⟨t1, t2⟩ := segAt_step hbs h3p HS.out Ha.out H2.out Hb.out Hc.out (fun h => (H5.out h).trans (Int.add_comm _ _))
              have hD5 := HDd.out.push hg14 HK4.out (by rw [← svs_app] at HO4; exact HO4.out)
              exact ⟨j, base + na, pc, n3 + 1, c4, bs2, ec, A4, _, by go_num, rfl, hD5, hpc, by omega, by omega, t2, ⟨t1⟩⟩
            case measure => simp [intOf]
        · obtain ⟨e2, HDb, H2, H5⟩ : ∃ e2 : Int, Hd (DS w1 w5.heap.size gb goff c1 l v1 v2 v3 v4 A3 n3 c3 segs pa e2 (wa)) ∧ Hd (e2 = if ea = 0 ∧ 9223372036854775807 - base < na then 85 else ea) ∧ Hd (e2 = 0 → (base : Int) + na = (na : Int) + base) :=
            ⟨ea, HDa, ⟨by rw [if_neg (by omega)]⟩, ⟨fun _ => Int.add_comm _ _⟩⟩
          clear hz HD HDa m0 m1 m2 m3 m4 g0 g1 g2 g3 g4 q0 q1 q2 f0 f1 f2 qa0 qa1 qa2 fa0 fa1 fa2 hNlt hMlt hNlta
          generalize (base : Int) + na = bs2 at *
          obtain ⟨wb, hwb⟩ : ∃ x, x = wa := ⟨_, rfl⟩
          subst hwb
          obtain ⟨hMb, mb0, mb1, mb2, mb3, mb4, gb0, gb1, gb2, gb3, gb4⟩ := HDb.out.mb.five
          go_region_law (first
            | (refine step_app Tsg (.tmp 78) (.tmp 85) rfl rfl (w5.heap.size + 1) (.slice A3 n3 c3) n3 (svs segs) rfl (HDd.out.own.alloc _) (wd.heap.size + 1) _ 1 1 (svs [⟨bs2, nb, nc⟩]) rfl (Rd.lit wd _ _) rfl (svs_one _) (by omega) (by simp; omega) (by omega) (by omega) ?_; intro A4 c4 w4 ho4 hb4 hg4 ha4; have HK4 := Hd.mk ((((Below.refl (w5.heap.size + 1) wd).alloc (by have := HDd.out.mb.lt; omega) _).trans hb4)); have HO4 := Hd.mk ho4; clear ho4 hb4 hg4 ha4; obtain ⟨hMe, me0, me1, me2, me3, me4, ge0, ge1, ge2, ge3, ge4⟩ := (HDd.out.mid HK4.out).five)
            | (go_simp; go_at_call 44; refine (HDb.out.drew.next hg14 k2 hpa).mono ?_; rintro r wc ⟨nb, pb, eb, rfl, hDc, hvc, hpb, Hb⟩; have HDc := Hd.mk hDc; obtain ⟨hMc, mc0, mc1, mc2, mc3, mc4, gc0, gc1, gc2, gc3, gc4⟩ := hDc.mb.five; clear hDc)
            | (go_simp; go_at_call 44; refine (HDc.out.next hg14 k2 hpb).mono ?_; rintro r wd ⟨nc, pc, ec, rfl, hDd, hvd, hpc, Hc⟩; have HDd := Hd.mk hDd; obtain ⟨hMd, md0, md1, md2, md3, md4, gd0, gd1, gd2, gd3, gd4⟩ := hDd.mb.five; clear hDd))
          all_goals
            go_wp2_with fail
            go_roundw
            case rel =>
              obtain ⟨t1, t2⟩ := segAt_step hbs h3p HS.out Ha.out H2.out Hb.out Hc.out (fun h => (H5.out h).trans (Int.add_comm _ _))
              have hD5 := HDd.out.push hg14 HK4.out (by rw [← svs_app] at HO4; exact HO4.out)
              exact ⟨j, base + na, pc, n3 + 1, c4, bs2, ec, A4, _, by go_num, rfl, hD5, hpc, by omega, by omega, t2, ⟨t1⟩⟩
            case measure => simp [intOf]
        · obtain ⟨e2, HDb, H2, H5⟩ : ∃ e2 : Int, Hd (DS w1 w5.heap.size gb goff c1 l v1 v2 v3 v4 A3 n3 c3 segs pa e2 (wa)) ∧ Hd (e2 = if ea = 0 ∧ 9223372036854775807 - base < na then 85 else ea) ∧ Hd (e2 = 0 → wrap64 ((base : Int) + na) = (na : Int) + base) :=
            ⟨ea, HDa, ⟨by rw [if_neg (fun h => by rw [h.1] at hz; exact absurd (show z = true from hz.symm) (by assumption))]⟩, ⟨fun h => (by rw [h] at hz; exact absurd (show z = true from hz.symm) (by assumption))⟩⟩
          clear hz HD HDa m0 m1 m2 m3 m4 g0 g1 g2 g3 g4 q0 q1 q2 f0 f1 f2 qa0 qa1 qa2 fa0 fa1 fa2 hNlt hMlt hNlta
          generalize wrap64 ((base : Int) + na) = bs2 at *
          obtain ⟨wb, hwb⟩ : ∃ x, x = wa := ⟨_, rfl⟩
          subst hwb
          obtain ⟨hMb, mb0, mb1, mb2, mb3, mb4, gb0, gb1, gb2, gb3, gb4⟩ := HDb.out.mb.five
          go_region_law (first
            | (refine step_app Tsg (.tmp 78) (.tmp 85) rfl rfl (w5.heap.size + 1) (.slice A3 n3 c3) n3 (svs segs) rfl (HDd.out.own.alloc _) (wd.heap.size + 1) _ 1 1 (svs [⟨bs2, nb, nc⟩]) rfl (Rd.lit wd _ _) rfl (svs_one _) (by omega) (by simp; omega) (by omega) (by omega) ?_; intro A4 c4 w4 ho4 hb4 hg4 ha4; have HK4 := Hd.mk ((((Below.refl (w5.heap.size + 1) wd).alloc (by have := HDd.out.mb.lt; omega) _).trans hb4)); have HO4 := Hd.mk ho4; clear ho4 hb4 hg4 ha4; obtain ⟨hMe, me0, me1, me2, me3, me4, ge0, ge1, ge2, ge3, ge4⟩ := (HDd.out.mid HK4.out).five)
            | (go_simp; go_at_call 44; refine (HDb.out.drew.next hg14 k2 hpa).mono ?_; rintro r wc ⟨nb, pb, eb, rfl, hDc, hvc, hpb, Hb⟩; have HDc := Hd.mk hDc; obtain ⟨hMc, mc0, mc1, mc2, mc3, mc4, gc0, gc1, gc2, gc3, gc4⟩ := hDc.mb.five; clear hDc)
            | (go_simp; go_at_call 44; refine (HDc.out.next hg14 k2 hpb).mono ?_; rintro r wd ⟨nc, pc, ec, rfl, hDd, hvd, hpc, Hc⟩; have HDd := Hd.mk hDd; obtain ⟨hMd, md0, md1, md2, md3, md4, gd0, gd1, gd2, gd3, gd4⟩ := hDd.mb.five; clear hDd))
          all_goals
            go_wp2_with fail
            go_roundw
            case rel =>
              obtain ⟨t1, t2⟩ := segAt_step hbs h3p HS.out Ha.out H2.out Hb.out Hc.out (fun h => (H5.out h).trans (Int.add_comm _ _))
              have hD5 := HDd.out.push hg14 HK4.out (by rw [← svs_app] at HO4; exact HO4.out)
              exact ⟨j, base + na, pc, n3 + 1, c4, bs2, ec, A4, _, by go_num, rfl, hD5, hpc, by omega, by omega, t2, ⟨t1⟩⟩
            case measure => simp [intOf]
      · have HE := Hd.mk (show decM b = .error e by rw [HN.out, HR2.out, show R = .error e from by have := HS.out; unfold SegAt at this; rwa [if_neg he] at this]; rfl)
        have heb : (e == 0) = false := beq_eq_false_iff_ne.2 he
        have hen : (e != 0) = true := bne_iff_ne.2 he
        clear hst
        obtain ⟨r1, r2, r3, r4, r5, r6, r7, r8, r9, r10, r11⟩ := (HR0.out.below HD.out.below hw1).five
        go_wp2_with fail
        go_region_law (fail)
        all_goals
          go_wp2_with fail
          refine bodyPost_ret (v := .tuple #[.agg #[.int .i64 0, .int .i64 0, .int .i64 0, .int .i64 0, .slice none 0 0], .int .i64 e]) (by simp [results, Tryd.results19, go_sem, r2, r3, r4, r5, r6]) rfl ?_
          exact mf_err HE.out (below_five (HBW.out.trans (HD.out.below.mono (Nat.le_of_lt hw1))) (Nat.le_refl _) _ _ _ _ _).drew
    · obtain rfl : k = 0 := by omega
      by_cases he : e = 0
      · subst he
        have HE := Hd.mk (show decM b = decEnd l v1 v2 v3 v4 (segs, p) by rw [HN.out, HR2.out, show R = .ok (segs, p) from by have := HS.out; unfold SegAt at this; rwa [if_pos rfl] at this]; rfl)
        obtain rfl : n3 = segs.length := by have := HD.out.own.1; rw [svs_len] at this; omega
        clear hst
        obtain ⟨r1, r2, r3, r4, r5, r6, r7, r8, r9, r10, r11⟩ := (HR0.out.below HD.out.below hw1).five
        by_cases hpl : p = l.length
        · subst hpl
          have HE2 := Hd.mk (show decM b = if chkM ⟨v1, v2, v3, v4, segs⟩ ≠ 0 then .error (chkM ⟨v1, v2, v3, v4, segs⟩) else .ok ⟨v1, v2, v3, v4, segs⟩ by rw [HE.out]; unfold decEnd; simp)
          have hC := check_ok ⟨v1, v2, v3, v4, segs⟩ A3 c3 wr (Rd.of_own HD.out.own) (by show segs.length ≤ _; omega)
          clear r1 r2 r3 r4 r5 r6 r7 r8 r9 r10 r11
          by_cases h9 : chkM ⟨v1, v2, v3, v4, segs⟩ = 0
          · rw [h9] at hC HE2
            have HC := Hd.mk hC
            clear hC h9
            go_wp2_with (go_at_call 9; refine HC.out.mono ?_; rintro r w9 ⟨rfl, hb9⟩; have HD9 := Hd.mk (HD.out.later hb9 hg14); obtain ⟨hNlt9, q90, q91, q92, f90, f91, f92⟩ := HD9.out.nb.three; obtain ⟨hMlt9, m90, m91, m92, m93, m94, g90, g91, g92, g93, g94⟩ := HD9.out.mb.five; obtain ⟨r1, r2, r3, r4, r5, r6, r7, r8, r9, r10, r11⟩ := (HR0.out.below HD9.out.below hw1).five)
            refine bodyPost_ret (v := .tuple #[.agg #[.int .i64 v1, .int .i64 v2, .int .i64 v3, .int .i64 v4, .slice A3 segs.length c3], .int .i64 0]) (by simp [results, Tryd.results19, go_sem, r2, r3, r4, r5, r6]) rfl ?_
            have HX := HD9.out.bad hg14 0
            exact mf_ok (m := ⟨v1, v2, v3, v4, segs⟩) (by rw [HE2.out, if_neg (by simp)]) rfl (own_low (own_five HX.own (by omega) _ _ _ _ _) (by omega)) (below_five (HBW.out.trans (HX.below.mono (Nat.le_of_lt hw1))) (Nat.le_refl _) _ _ _ _ _)
          · have hen : (chkM ⟨v1, v2, v3, v4, segs⟩ != 0) = true := bne_iff_ne.2 h9
            have HE3 := Hd.mk (show decM b = .error (chkM ⟨v1, v2, v3, v4, segs⟩) by rw [HE2.out, if_pos h9])
            clear HE2 h9
            generalize chkM ⟨v1, v2, v3, v4, segs⟩ = er at *
            have HC := Hd.mk hC
            clear hC
            go_wp2_with (go_at_call 9; refine HC.out.mono ?_; rintro r w9 ⟨rfl, hb9⟩; have HD9 := Hd.mk (HD.out.later hb9 hg14); obtain ⟨hNlt9, q90, q91, q92, f90, f91, f92⟩ := HD9.out.nb.three; obtain ⟨hMlt9, m90, m91, m92, m93, m94, g90, g91, g92, g93, g94⟩ := HD9.out.mb.five; obtain ⟨r1, r2, r3, r4, r5, r6, r7, r8, r9, r10, r11⟩ := (HR0.out.below HD9.out.below hw1).five)
            go_region_law (fail)
            all_goals
              go_wp2_with fail
              refine bodyPost_ret (v := .tuple #[.agg #[.int .i64 0, .int .i64 0, .int .i64 0, .int .i64 0, .slice none 0 0], .int .i64 er]) (by simp [results, Tryd.results19, go_sem, r2, r3, r4, r5, r6]) rfl ?_
              exact mf_err HE3.out (below_five (HBW.out.trans ((HD9.out.bad hg14 er).below.mono (Nat.le_of_lt hw1))) (Nat.le_refl _) _ _ _ _ _).drew
        · have HE2 := Hd.mk (show decM b = .error 85 by rw [HE.out]; unfold decEnd; dsimp only; rw [if_pos hpl])
          have hpb : ((p : Int) != (l.length : Int)) = true := bne_iff_ne.2 (by omega)
          go_wp2_with fail
          go_region_law (fail)
          all_goals
            go_wp2_with fail
            refine bodyPost_ret (v := .tuple #[.agg #[.int .i64 0, .int .i64 0, .int .i64 0, .int .i64 0, .slice none 0 0], .int .i64 85]) (by simp [results, Tryd.results19, go_sem, r2, r3, r4, r5, r6]) rfl ?_
            exact mf_err HE2.out (below_five (HBW.out.trans ((HD.out.bad hg14 85).below.mono (Nat.le_of_lt hw1))) (Nat.le_refl _) _ _ _ _ _).drew
      · have HE := Hd.mk (show decM b = .error e by rw [HN.out, HR2.out, show R = .error e from by have := HS.out; unfold SegAt at this; rwa [if_neg he] at this]; rfl)
        have heb : (e == 0) = false := beq_eq_false_iff_ne.2 he
        have hen : (e != 0) = true := bne_iff_ne.2 he
        clear hst
        obtain ⟨r1, r2, r3, r4, r5, r6, r7, r8, r9, r10, r11⟩ := (HR0.out.below HD.out.below hw1).five
        go_wp2_with fail
        go_region_law (fail)
        all_goals
          go_wp2_with fail
          refine bodyPost_ret (v := .tuple #[.agg #[.int .i64 0, .int .i64 0, .int .i64 0, .int .i64 0, .slice none 0 0], .int .i64 e]) (by simp [results, Tryd.results19, go_sem, r2, r3, r4, r5, r6]) rfl ?_
          exact mf_err HE.out (below_five (HBW.out.trans (HD.out.below.mono (Nat.le_of_lt hw1))) (Nat.le_refl _) _ _ _ _ _).drew

theorem decode_ok (A : Option Addr) (c : Nat) (b : List UInt8) (w : World) (hr : Rd w w.heap.size A (bv b)) (hcap : b.length ≤ c) (hl : b.length ≤ 140737488355328) (hT : Tab w) (h0 : 0 < w.heap.size) :
    Calls Tryd.prog 19 #[.slice A b.length c] w (MfPost w (decM b)) := by
  by_cases h : ∃ l, rdFrame b 0 = .ok (l, b.length) ∧ l.getD 0 0 = 77
  · obtain ⟨l, h1, h2⟩ := h
    exact decode_good A c b l w hr hcap hl hT h0 h1 h2
  · refine decode_bad A c b w hr hcap hl hT h0 fun body q hq => ?_
    by_cases hb : q = b.length
    · subst hb
      exact .inr fun h77 => h ⟨body, hq, h77⟩
    · exact .inl hb
end Go.Proofs.YtamodllgeabpoaaDoor
