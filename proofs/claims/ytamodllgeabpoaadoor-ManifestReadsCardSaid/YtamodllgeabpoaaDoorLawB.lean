/- Contracts: manifests laid into memory of their own; answers as one value, error or not; rows that hold one mark. -/
import Derived.Test.YtamodllgeabpoaaDoorOne
import Derived.Deep.DeepCutAuto
namespace Go.Proofs.YtamodllgeabpoaaDoor
open Go.RowKit

/-- what a call that answers bytes and an error answers, as two values -/
def btL (r : Except Int (List UInt8)) : List UInt8 := match r with | .ok l => l | .error _ => []
def btE (r : Except Int (List UInt8)) : Int := match r with | .ok _ => 0 | .error e => e
theorem bt_flat {w w' : World} {r : Except Int (List UInt8)} {e : Ending} (h : BtPost w r e w') :
    ∃ A c, e = .returned (.tuple #[.slice A (btL r).length c, .int .i64 (btE r)]) ∧ FB 5 w.heap.size w' A c (btL r) ∧ Below w.heap.size w w' := by
  obtain ⟨h1, h2, h3⟩ := h
  cases r with
  | error er => exact ⟨none, 0, h1 er rfl, FB.nil _ _ _, h3⟩
  | ok l =>
    obtain ⟨A, c, e1, e2⟩ := h2 l rfl
    exact ⟨A, c, e1, e2, h3⟩
def mfM (r : Except Int Mf) : Mf := match r with | .ok m => m | .error _ => ⟨0, 0, 0, 0, []⟩
def mfE (r : Except Int Mf) : Int := match r with | .ok _ => 0 | .error e => e
theorem mf_flat {w w' : World} {r : Except Int Mf} {e : Ending} (h : MfPost w r e w') :
    ∃ A c, e = .returned (.tuple #[mval (mfM r) A c, .int .i64 (mfE r)]) ∧ w'.ownsRow w.heap.size 45 3 (.slice A (mfM r).segs.length c) (mfM r).segs.length (svs (mfM r).segs) ∧ Below w.heap.size w w' := by
  obtain ⟨h1, h2, h3⟩ := h
  cases r with
  | error er => exact ⟨none, 0, h1 er rfl, World.ownsRow_nil _ _ _ _, h3⟩
  | ok m =>
    obtain ⟨A, c, e1, e2⟩ := h2 m rfl
    exact ⟨A, c, e1, e2, h3⟩

/-- the two marks behind a list of segments -/
def mk2 : List Sg := [⟨-201, 0, 0⟩, ⟨-202, 0, 0⟩]

set_option maxRecDepth 100000 in
set_option maxHeartbeats 2000000 in
theorem laidSegs_ok (m : Mf) (A : Option Addr) (c : Nat) (w : World) (hr : Rd w w.heap.size A (svs m.segs)) (hl : m.segs.length ≤ 1000000) :
    Calls Tryd.prog 13 #[mval m A c] w fun e w' => ∃ g c', e = .returned (mval m (some ⟨g, 0, none⟩) c') ∧
      w'.ownsRow w.heap.size 45 3 (.slice (some ⟨g, 0, none⟩) (m.segs.length + 2) c') (m.segs.length + 2) (svs (m.segs ++ mk2)) ∧ Below w.heap.size w w' := by
  obtain ⟨gg, v, n, t, segs⟩ := m
  dsimp only at hr hl ⊢
  have hb0 : Below w.heap.size w ((w.alloc (.cells #[.int .i64 gg, .int .i64 v, .int .i64 n, .int .i64 t, .slice A segs.length c] 24)).alloc (.cells #[.int .i64 0, .int .i64 0, .int .i64 0, .int .i64 0, .slice none 0 0] 24)) := ((Below.refl _ _).alloc (Nat.le_refl _) _).alloc (by simp) _
  have HR := Hd.mk (hr.below hb0 (Nat.le_refl _))
  have H1 := Hd.mk (svs_one segs)
  have H2 := Hd.mk (svs_one mk2)
  have hlen := svs_len segs
  have HLEN := Hd.mk hlen
  have hby : (0 + segs.length) * 24 ≤ 140737488355328 := by omega
  have hby2 : (segs.length + 2) * 24 ≤ 140737488355328 := by omega
  have HX := Hd.mk ((Blk.new w 24 #[.int .i64 gg, .int .i64 v, .int .i64 n, .int .i64 t, .slice A segs.length c]).alloc (.cells #[.int .i64 0, .int .i64 0, .int .i64 0, .int .i64 0, .slice none 0 0] 24))
  have HY := Hd.mk (Blk.new (w.alloc (.cells #[.int .i64 gg, .int .i64 v, .int .i64 n, .int .i64 t, .slice A segs.length c] 24)) 24 #[.int .i64 0, .int .i64 0, .int .i64 0, .int .i64 0, .slice none 0 0])
  have HB0 := Hd.mk hb0
  have hY := HY.out
  rw [size_alloc] at hY
  have HY := Hd.mk hY
  clear hr hlen hb0 hY
  go_enter Tryd.func13, Tryd.ntmps13
  go_wp2_with (first
    | (have hx := HO1; at_builtin; refine app_lit Tsg (.tmp 6) (.tmp 9) rfl rfl _ (w.heap.size + 2) _ segs.length (svs segs) rfl HO1.out 2 _ rfl rfl rfl H2.out hby2 hs1 (by omega) (by omega) ?_; intro A2 c2 w2 ho2 hb2 hg2 ha2; obtain ⟨g2, c3, e2, hg0, hl2⟩ := ho2.form (by omega); cases e2; have HO2 := Hd.mk ho2; have HB2 := Hd.mk (HB1.out.trans hb2); obtain ⟨r1, r2, r3, r4, r5, r6, r7, r8, r9, r10, r11⟩ := (HX.out.below HB2.out (by omega)).five; obtain ⟨z1, z2, z3, z4, z5, z6, z7, z8, z9, z10, z11⟩ := (HY.out.below HB2.out (by simp)).five; have hcap2 := own_cap ho2 (by omega); clear ho2 hb2 hg2 ha2)
    | (at_builtin; refine app_rd Tsg _ (.tmp 5) rfl rfl (w.heap.size + 2) (.slice none 0 0) 0 [] rfl (World.ownsRow_nil _ _ _ _) w.heap.size A segs.length c (svs segs) rfl HR.out HLEN.out H1.out hby (by simp) (by omega) (by omega) ?_; intro A1 c1 w1 ho1 hb1 hg1 ha1; rw [Nat.zero_add] at ho1 ⊢; rw [List.nil_append] at ho1; have HO1 := Hd.mk ho1; have HB1 := Hd.mk hb1; have hs1 : w.heap.size + 2 ≤ w1.heap.size := (by have := hb1.size; simpa using this); clear ho1 hb1 hg1 ha1))
  refine bodyPost_ret (v := mval ⟨gg, v, n, t, segs⟩ (some ⟨g2, 0, none⟩) c2) (by simp [results, Tryd.results13, go_sem, z2, z3, z4, z5, z6]) rfl ?_
  refine ⟨g2, c2, rfl, ?_, ?_⟩
  · rw [svs_app]
    refine own_low (own_five ?_ (Nat.lt_succ_self _) _ _ _ _ _) (Nat.le_add_right _ 2)
    exact HO2.out.kept (row := some w.heap.size) (grown_set (World.grownBy.refl w2 _) 4 _) (own_not_low HO2.out (by omega))
  · exact below_five (((HB0.out.trans (HB2.out.mono (by omega)))).setCell (Nat.le_refl _) _) (by omega) _ _ _ _ _

/-- n marks, laid one behind the other -/
def mrep (mk : List Value) (n : Nat) : List Value := (List.replicate n mk).flatten
theorem mrep_len (mk : List Value) (n : Nat) : (mrep mk n).length = n * mk.length := by simp [mrep]
theorem mrep_add (mk : List Value) (n m : Nat) : mrep mk (n + m) = mrep mk n ++ mrep mk m := by simp [mrep, ← List.replicate_append_replicate]
theorem mrep_succ (mk : List Value) (n : Nat) : mrep mk (n + 1) = mk ++ mrep mk n := by simp [mrep, List.replicate_succ]
theorem mrep_get (mk : List Value) (n : Nat) : ∀ j, j < n * mk.length → (mrep mk n)[j]? = mk[j % mk.length]? := by
  induction n with
  | zero => intro j h; simp at h
  | succ n ih =>
    intro j h
    rw [mrep_succ]
    by_cases hj : j < mk.length
    · rw [List.getElem?_append_left hj, Nat.mod_eq_of_lt hj]
    · rw [List.getElem?_append_right (by omega), ih (j - mk.length) (by rw [Nat.succ_mul] at h; omega)]
      congr 1
      conv => rhs; rw [show j = (j - mk.length) + mk.length by omega]
      rw [Nat.add_mod_right]
theorem mrep_one {mk : List Value} (h : ∀ u ∈ mk, u.oneCell' = true) (n : Nat) : ∀ u ∈ mrep mk n, u.oneCell' = true := by
  intro u hu
  simp only [mrep, List.mem_flatten, List.mem_replicate] at hu
  obtain ⟨l, ⟨_, rfl⟩, hl⟩ := hu
  exact h u hl
theorem take_eq_of_get {l m : List Value} {k : Nat} (hm : m.length = k) (hk : k ≤ l.length) (h : ∀ j, j < k → l[j]? = m[j]?) : l.take k = m := by
  apply List.ext_getElem?
  intro j
  by_cases hj : j < k
  · rw [List.getElem?_take, if_pos hj, h j hj]
  · rw [List.getElem?_eq_none (by simp; omega), List.getElem?_eq_none (by omega)]

/-- every row of marks stays one -/
def KeepM (w w' : World) (e : TypeId) (mk : List Value) : Prop := ∀ base v n, w.ownsRow base e mk.length v n (mrep mk n) → w'.ownsRow base e mk.length v n (mrep mk n)
theorem KeepM.refl (w : World) (e : TypeId) (mk : List Value) : KeepM w w e mk := fun _ _ _ h => h
theorem KeepM.trans {w w' w'' : World} {e : TypeId} {mk : List Value} (h : KeepM w w' e mk) (h' : KeepM w' w'' e mk) : KeepM w w'' e mk := fun b v n ho => h' b v n (h b v n ho)
theorem KeepM.below {w w' : World} {e : TypeId} {mk : List Value} (h : Below w.heap.size w w') : KeepM w w' e mk := fun _ _ _ ho => own_below ho h
theorem KeepM.grown {w w' : World} {e : TypeId} {mk : List Value} (h : w.grownBy w' none) : KeepM w w' e mk := fun _ v _ ho => ho.kept h (by cases v.ownBlock <;> simp)

/-- append of marks onto marks: every other row of marks stays one, too, though it may share the memory -/
theorem SlT.run_append_mark {P : Program} {t e : TypeId} {bytes : Nat} {mk : List Value} (T : SlT P t e mk.length bytes) (hsz : 0 < mk.length) (hmk : ∀ u ∈ mk, u.oneCell' = true) {w : World} (ty : TypeId) (base : Nat) (v : Value) (n : Nat) (hown : w.ownsRow base e mk.length v n (mrep mk n))
    (a : Addr) (m c : Nat) (hr : ∀ j u, (mrep mk m)[j]? = some u → w.cell? (a.add j) = some u) (hbytes : (n + m) * bytes ≤ 140737488355328) (hb0 : 0 < bytes) (hbase : base ≤ w.heap.size) :
    ∃ A' c' w', (Builtin.append_ #[t, t] ty #[v, .slice (some a) m c]).run P w = .ok (.slice A' (n + m) c') w' ∧ w'.ownsRow base e mk.length (.slice A' (n + m) c') (n + m) (mrep mk (n + m)) ∧ w.grownBy w' v.ownBlock ∧ KeepM w w' e mk := by
  obtain ⟨i, hi, hzz⟩ := Option.map_eq_some_iff.1 T.hi
  simp only [Prod.mk.injEq, Option.map_eq_some_iff] at hzz
  obtain ⟨hz1, hz2, z, hz0, hz3⟩ := hzz
  have h63 : n + m ≤ maxLen := by
    have : n + m ≤ (n + m) * bytes := Nat.le_mul_of_pos_right _ hb0
    simp only [maxLen]; omega
  have hl := mrep_len mk m
  have h1 := mrep_one hmk m
  have hsl : ∀ {b : Nat} {v' : Value} {w' : World}, w'.ownsRow b e mk.length v' (n + m) (mrep mk (n + m)) → ∃ A' c', v' = .slice A' (n + m) c' := by
    intro b v' w' ho
    rcases ho.2 with ⟨rfl, h0⟩ | ⟨g, cap, cur, rfl, _⟩
    · exact ⟨none, 0, by rw [h0]⟩
    · exact ⟨_, _, rfl⟩
  rcases hown.2 with ⟨rfl, h0⟩ | ⟨g, cap, cur, rfl, hbg, hg, hnc, hcm, hcs, htake⟩
  · obtain ⟨v', w', hrun, h2, h3, _, _⟩ := run_append_own_at (P := P) w base t ty e i z mk.length bytes T.ht hi hz0 hz1 hz2 hz3 hsz _ n _ hown a m c _ hl hr h1 h63 hbytes hbase
    rw [← mrep_add] at h2
    obtain ⟨A', c', rfl⟩ := hsl h2
    exact ⟨A', c', w', hrun, h2, h3, KeepM.grown h3⟩
  · by_cases hroom : n + m ≤ cap
    · have hfit : n * i.size + (mrep mk m).length ≤ cur.size := by rw [hl, hcs, hz1, ← Nat.add_mul]; exact Nat.mul_le_mul_right _ hroom
      have hrun := run_append_room (P := P) w t ty e i T.ht hi g n cap cur hg a m c _ (by rw [hz1]; exact hl) hr h1 hroom hfit
      have hH := setRow_heap w g cur (cur.toList.take (n * i.size) ++ mrep mk m ++ cur.toList.drop (n * i.size + (mrep mk m).length)).toArray e (0, 0) hg
      rw [hz1, htake, ← mrep_add] at hH hrun
      have hG : w.grownBy (w.setRow g (mrep mk (n + m) ++ cur.toList.drop (n * mk.length + (mrep mk m).length)).toArray) (some g) := ⟨rfl, rfl, rfl, by simp [World.setRow], fun k _ hk => setRow_other w g k _ (fun e => hk (by simp [e]))⟩
      have hsize : (mrep mk (n + m) ++ cur.toList.drop (n * mk.length + (mrep mk m).length)).length = cap * mk.length := by
        have h3 : cur.toList.length = cap * mk.length := by simpa using hcs
        rw [List.length_append, mrep_len, List.length_drop, hl, h3]
        have h1 : (n + m) * mk.length ≤ cap * mk.length := Nat.mul_le_mul_right _ hroom
        have h2 : (n + m) * mk.length = n * mk.length + m * mk.length := Nat.add_mul _ _ _
        omega
      refine ⟨_, cap, _, hrun, ⟨mrep_len _ _, .inr ⟨g, cap, _, rfl, hbg, hH, hroom, hcm, by simpa using hsize, ?_⟩⟩, hG, ?_⟩
      · rw [← mrep_len mk (n + m)]; exact List.take_left
      · intro base2 v2 n2 ho
        by_cases hne : v2.ownBlock = some g
        · rcases ho.2 with ⟨rfl, _⟩ | ⟨g2, cap2, cur2, rfl, hbg2, hg2, hnc2, hcm2, hcs2, htake2⟩
          · simp [Value.ownBlock] at hne
          · obtain rfl : g2 = g := by simpa [Value.ownBlock] using hne
            rw [hg] at hg2
            simp only [Option.some.injEq, Obj.cells.injEq, and_true] at hg2
            obtain ⟨rfl, _⟩ := hg2
            have hcc : cap2 = cap := Nat.eq_of_mul_eq_mul_right hsz (by rw [← hcs2, hcs])
            subst hcc
            refine ⟨ho.1, .inr ⟨g2, cap2, _, rfl, hbg2, hH, hnc2, hcm2, by simpa using hsize, ?_⟩⟩
            have hn2 : n2 * mk.length ≤ cap2 * mk.length := Nat.mul_le_mul_right _ hnc2
            refine take_eq_of_get (mrep_len _ _) (by rw [List.toList_toArray, hsize]; exact hn2) fun j hj => ?_
            rw [mrep_get mk n2 j hj, List.toList_toArray]
            by_cases hjn : j < (n + m) * mk.length
            · rw [List.getElem?_append_left (by rw [mrep_len]; exact hjn), mrep_get _ _ _ hjn]
            · rw [List.getElem?_append_right (by rw [mrep_len]; omega), List.getElem?_drop, hl, mrep_len, ← Nat.add_mul, show (n + m) * mk.length + (j - (n + m) * mk.length) = j by omega]
              have := congrArg (fun l => l[j]?) htake2
              simp only [List.getElem?_take, hj, if_true] at this
              rw [this, mrep_get _ _ _ hj]
        · exact ho.kept hG (.inr hne)
    · obtain ⟨v', w', hrun, h2, h3⟩ := run_append_arg_grows (P := P) w t ty e i z mk.length bytes T.ht hi hz0 hz1 hz2 hz3 hsz ⟨g, 0, none⟩ n cap (mrep mk n) hown.1 (hown.cells (g := g) rfl) a m c _ hl hr (by omega) h63 hbytes
      rw [← mrep_add] at h2
      obtain ⟨A', c', rfl⟩ := hsl h2
      exact ⟨A', c', w', hrun, own_low h2 hbase, ⟨h3.os, h3.tape, h3.output, h3.size, fun k hk _ => h3.block k hk (by simp)⟩, KeepM.grown h3⟩

theorem app_marklit {P : Program} {t e : TypeId} {bytes : Nat} {mk : List Value} (T : SlT P t e mk.length bytes) (hsz : 0 < mk.length) (hmk : ∀ u ∈ mk, u.oneCell' = true) {ops : Array Oper} {rest : List Oper} {o : Oper} {a : Act} {Q : Exit → Act → World → Prop} {w : World} (s x : Operand)
    (hgd : o.guard = none) (ho : o.op = .call { callee := .builtin .append, args := #[s, x], argTypes := #[t, t] })
    (cs : Array Value) (base : Nat) (v : Value) (n : Nat) (hs : a.eval s = v) (hown : w.ownsRow base e mk.length v n (mrep mk n))
    (m g : Nat) (hx : a.eval x = .slice (some ⟨g, 0, none⟩) m m) (hg : g = w.heap.size) (hcs : cs.toList = mrep mk m)
    (hbytes : (n + m) * bytes ≤ 140737488355328) (hbase : base ≤ w.heap.size) (hb0 : 0 < bytes)
    (h : ∀ A' c' w', w'.ownsRow base e mk.length (.slice A' (n + m) c') (n + m) (mrep mk (n + m)) → KeepM w w' e mk → w.grownBy w' v.ownBlock → wpList P ops Q rest (a.put o.dst (.slice A' (n + m) c')) w') : wpList P ops Q (o :: rest) a (w.alloc (.cells cs e)) := by
  subst hg
  refine wpList_plain hgd fun K hK => ?_
  obtain ⟨A', c', w', hrun, h2, h3, h4⟩ := T.run_append_mark hsz hmk (w := w.alloc (.cells cs e)) o.type base v n (hown.alloc _) ⟨w.heap.size, 0, none⟩ m m (fun j u hu => by
    rw [show (⟨w.heap.size, 0, none⟩ : Addr).add j = ⟨w.heap.size, j, none⟩ from by unfold Addr.add; split <;> simp_all]
    rw [cell_of_row _ _ j cs e (0, 0) (heap_alloc_new w _), ← hu, ← hcs]
    simp) hbytes hb0 (by simp; omega)
  unfold Oper.wp execOp
  simp only [ho, resolve, invoke, builtin, Sem.run_bind, Sem.run_pure, Result.andThen_ok, List.map_toArray, List.map_cons, List.map_nil, hs, hx, hrun]
  exact hK _ _ (h A' c' w' h2 ((KeepM.below ((Below.refl _ _).alloc (Nat.le_refl _) _)).trans h4) (World.grownBy.trans (World.grownBy_alloc w _ _) h3))

theorem bv_rep (n : Nat) (x : UInt8) : bv (List.replicate n x) = mrep [.int .u8 (x.toNat : Int)] n := by
  induction n with
  | zero => rfl
  | succ n ih => rw [mrep_succ, ← ih]; rfl
end Go.Proofs.YtamodllgeabpoaaDoor
