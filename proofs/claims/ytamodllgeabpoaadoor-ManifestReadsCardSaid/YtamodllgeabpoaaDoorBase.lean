/- Plain lemmas on the model's memory: what a slice value reads as, rows that a call owns, appends. No program in sight. -/
import Derived.WalkKit
import Derived.WalkSpells
import Derived.WalkLawsBesides
import Derived.Lib.Hide
import Derived.Maps.AppendAt
import Derived.Laws.OwnMore
import Derived.Laws.CopyOwn
import Derived.Deep.OwnRows
import Derived.Deep.AppendLies
import Derived.Laws.Rows
import Derived.KernelRfl
namespace Go.Proofs.YtamodllgeabpoaaDoor
open Go.RowKit

/-- bytes, whole numbers as cells -/
def bv (l : List UInt8) : List Value := l.map fun b => .int .u8 (b.toNat : Int)
def iv (l : List Int) : List Value := l.map fun n => .int .i64 n
theorem bv_len (l : List UInt8) : (bv l).length = l.length := by simp [bv]
theorem iv_len (l : List Int) : (iv l).length = l.length := by simp [iv]
theorem bv_app (a b : List UInt8) : bv (a ++ b) = bv a ++ bv b := by simp [bv]
theorem iv_app (a b : List Int) : iv (a ++ b) = iv a ++ iv b := by simp [iv]
theorem bv_get (l : List UInt8) (k : Nat) (h : k < l.length) : (bv l)[k]? = some (.int .u8 ((l[k]).toNat : Int)) := by simp [bv, h]
theorem iv_get (l : List Int) (k : Nat) (h : k < l.length) : (iv l)[k]? = some (.int .i64 (l[k])) := by simp [iv, h]
theorem bv_one (l : List UInt8) : ∀ u ∈ bv l, u.oneCell' = true := by intro u hu; simp only [bv, List.mem_map] at hu; obtain ⟨x, _, rfl⟩ := hu; rfl
theorem iv_one (l : List Int) : ∀ u ∈ iv l, u.oneCell' = true := by intro u hu; simp only [iv, List.mem_map] at hu; obtain ⟨x, _, rfl⟩ := hu; rfl

/-- the cells from (b, off) on are vs -/
def Cells (w : World) (b off : Nat) (vs : List Value) : Prop := ∀ j u, vs[j]? = some u → w.cell? ⟨b, off + j, none⟩ = some u
/-- a slice's address A leads, below block B, to the cells vs; of an empty one nothing is said -/
def Rd (w : World) (B : Nat) (A : Option Addr) (vs : List Value) : Prop := 0 < vs.length → ∃ b off, A = some ⟨b, off, none⟩ ∧ b < B ∧ Cells w b off vs

section
variable {w w' : World} {B B' : Nat} {A : Option Addr} {vs : List Value}
theorem Rd.nil (w : World) (B : Nat) (A : Option Addr) : Rd w B A [] := fun h => absurd h (by simp)
theorem Rd.below (h : Rd w B A vs) (hb : Below B' w w') (hB : B ≤ B') : Rd w' B A vs := by
  intro h0
  obtain ⟨b, off, e, hl, hc⟩ := h h0
  exact ⟨b, off, e, hl, fun j u hu => (hb.cell (show b < B' by omega)).trans (hc j u hu)⟩
theorem Rd.more (h : Rd w B A vs) (hB : B ≤ B') : Rd w B' A vs := by
  intro h0
  obtain ⟨b, off, e, hl, hc⟩ := h h0
  exact ⟨b, off, e, by omega, hc⟩
theorem Rd.at_ (h : Rd w B A vs) {k : Nat} {u : Value} (hu : vs[k]? = some u) : ∃ b off, A = some ⟨b, off, none⟩ ∧ b < B ∧ w.cell? ⟨b, off + k, none⟩ = some u := by
  have hk : k < vs.length := (List.getElem?_eq_some_iff.1 hu).1
  obtain ⟨b, off, e, hl, hc⟩ := h (by omega)
  exact ⟨b, off, e, hl, hc k u hu⟩
theorem Rd.of_own {base n c size : Nat} {e : TypeId} (h : w.ownsRow base e size (.slice A n c) n vs) : Rd w w.heap.size A vs := by
  intro h0
  have hn : 0 < n := by
    rcases Nat.eq_zero_or_pos n with h1 | h1
    · have := h.1; rw [h1] at this; simp at this; rw [this] at h0; simp at h0
    · exact h1
  obtain ⟨g, cap, hv, _, hlt⟩ := h.form hn
  have hA : A = some ⟨g, 0, none⟩ := by injection hv
  subst hA
  refine ⟨g, 0, rfl, hlt, fun j u hu => ?_⟩
  have := h.cells (g := g) rfl j u hu
  rw [Nat.zero_add]
  rw [show (⟨g, 0, none⟩ : Addr).add j = ⟨g, j, none⟩ from by unfold Addr.add; split <;> simp_all] at this
  exact this
theorem Rd.lit (w : World) (cs : Array Value) (t : TypeId) : Rd (w.alloc (.cells cs t)) (w.heap.size + 1) (some ⟨w.heap.size, 0, none⟩) cs.toList := by
  intro _
  refine ⟨w.heap.size, 0, rfl, by omega, fun j u hu => ?_⟩
  rw [Nat.zero_add, cell_of_row _ _ j cs t (0, 0) (heap_alloc_new w _)]
  simpa using hu
theorem Rd.cut (h : Rd w B A vs) (lo size n cap hi : Nat) (hn : n ≤ cap) (hlo : lo ≤ hi) (hhi : hi ≤ n) (hv : vs.length = n * size) :
    Rd w B (if cap = lo then A else A.map (·.add (lo * size))) ((vs.drop (lo * size)).take ((hi - lo) * size)) := by
  intro h0
  have h1 : 0 < vs.length := by simp at h0; omega
  obtain ⟨b, off, rfl, hl, hc⟩ := h h1
  have hne : cap ≠ lo := by
    rintro rfl
    have : hi - cap = 0 := by omega
    rw [this] at h0
    simp at h0
  rw [if_neg hne]
  refine ⟨b, off + lo * size, ?_, hl, fun j u hu => ?_⟩
  · simp only [Option.map_some, Addr.add]
    split
    · rename_i hz; rw [hz]; rfl
    · rfl
  · rw [List.getElem?_take] at hu
    split at hu
    · rw [List.getElem?_drop] at hu
      rw [Nat.add_assoc]
      exact hc _ _ hu
    · cases hu
end

theorem Rd.sub {w : World} {B b off : Nat} {vs : List Value} (h : Rd w B (some ⟨b, off, none⟩) vs) (lo n : Nat) : Rd w B (some ⟨b, off + lo, none⟩) ((vs.drop lo).take n) := by
  intro h0
  obtain ⟨b', off', e, hl, hc⟩ := h (by simp at h0; omega)
  obtain ⟨rfl, rfl⟩ : b = b' ∧ off = off' := by simpa using e
  refine ⟨b, off + lo, rfl, hl, fun j u hu => ?_⟩
  rw [List.getElem?_take] at hu
  split at hu
  · rw [List.getElem?_drop] at hu
    rw [Nat.add_assoc]
    exact hc _ _ hu
  · cases hu
theorem Rd.subB {w : World} {B b off : Nat} {l : List UInt8} (h : Rd w B (some ⟨b, off, none⟩) (bv l)) (lo n : Nat) : Rd w B (some ⟨b, off + lo, none⟩) (bv ((l.drop lo).take n)) := by
  have := h.sub lo n
  rwa [show ((bv l).drop lo).take n = bv ((l.drop lo).take n) from by simp [bv]] at this

/-- the kind of a slice type: its elements' type, their cells, their bytes -/
structure SlT (P : Program) (t e : TypeId) (size bytes : Nat) : Prop where
  ht : P.underlying t = some (.slice e)
  hi : (P.info? e).map (fun i => (i.size, i.bytes, i.zero.map fun z => z.cells.size)) = some (size, bytes, some size)

section
variable {P : Program} {t e : TypeId} {size bytes : Nat}
theorem SlT.run_append (T : SlT P t e size bytes) (hsz : 0 < size) {w : World} (ty : TypeId) (base : Nat) (v : Value) (n : Nat) (xs : List Value) (hown : w.ownsRow base e size v n xs)
    (B : Nat) (A : Option Addr) (m c : Nat) (news : List Value) (hl : news.length = m * size) (hr : Rd w B A news) (h1 : ∀ u ∈ news, u.oneCell' = true) (hbytes : (n + m) * bytes ≤ 140737488355328) (hb0 : 0 < bytes) (hbase : base ≤ w.heap.size) :
    ∃ A' c' w', (Builtin.append_ #[t, t] ty #[v, .slice A m c]).run P w = .ok (.slice A' (n + m) c') w' ∧ w'.ownsRow base e size (.slice A' (n + m) c') (n + m) (xs ++ news) ∧ w.grownBy w' v.ownBlock ∧
      ((Value.slice A' (n + m) c').ownBlock = v.ownBlock ∨ (Value.slice A' (n + m) c').ownBlock = some w.heap.size) := by
  obtain ⟨i, hi, hzz⟩ := Option.map_eq_some_iff.1 T.hi
  simp only [Prod.mk.injEq, Option.map_eq_some_iff] at hzz
  obtain ⟨hz1, hz2, z, hz0, hz3⟩ := hzz
  have h63 : n + m ≤ maxLen := by
    have : n + m ≤ (n + m) * bytes := Nat.le_mul_of_pos_right _ hb0
    simp only [maxLen]; omega
  have hsl : ∀ {v' : Value} {w' : World}, w'.ownsRow base e size v' (n + m) (xs ++ news) → ∃ A' c', v' = .slice A' (n + m) c' := by
    intro v' w' ho
    rcases ho.2 with ⟨rfl, h0⟩ | ⟨g, cap, cur, rfl, _⟩
    · exact ⟨none, 0, by rw [h0]⟩
    · exact ⟨_, _, rfl⟩
  have fin : ∀ (ad : Addr), (∀ j u, news[j]? = some u → w.cell? (ad.add j) = some u) → A = some ad → ∃ A' c' w', (Builtin.append_ #[t, t] ty #[v, .slice A m c]).run P w = .ok (.slice A' (n + m) c') w' ∧ w'.ownsRow base e size (.slice A' (n + m) c') (n + m) (xs ++ news) ∧ w.grownBy w' v.ownBlock ∧
      ((Value.slice A' (n + m) c').ownBlock = v.ownBlock ∨ (Value.slice A' (n + m) c').ownBlock = some w.heap.size) := by
    intro ad hnews hA
    subst hA
    obtain ⟨v', w', hr, h2, h3, _, h5⟩ := run_append_own_at (P := P) w base t ty e i z size bytes T.ht hi hz0 hz1 hz2 hz3 hsz v n xs hown ad m c news hl hnews h1 h63 hbytes hbase
    obtain ⟨A', c', rfl⟩ := hsl h2
    exact ⟨A', c', w', hr, h2, h3, h5⟩
  rcases Nat.eq_zero_or_pos m with hm | hm
  · subst hm
    obtain rfl : news = [] := List.eq_nil_of_length_eq_zero (by simpa using hl)
    cases A with
    | some ad => exact fin ad (fun j u hu => by simp at hu) rfl
    | none =>
      have ht := T.ht
      rcases hown.2 with ⟨rfl, h0⟩ | ⟨g, cap, cur, rfl, _, _, hnc, _⟩
      · subst h0
        exact ⟨none, 0, w, by simp [Builtin.append_, run_underlying ht, sizeOf, typeInfo, hi, Builtin.lenOf, Builtin.firstCells], by simpa using hown, World.grownBy.refl w _, .inl rfl⟩
      · exact ⟨_, cap, w, by simp [Builtin.append_, run_underlying ht, sizeOf, typeInfo, hi, Builtin.lenOf, Builtin.firstCells, hnc, storeCells], by simpa using hown, World.grownBy.refl w _, .inl rfl⟩
  · have hpos : 0 < news.length := by rw [hl]; exact Nat.mul_pos hm hsz
    obtain ⟨b, off, hA, hlt, hc⟩ := hr hpos
    refine fin ⟨b, off, none⟩ (fun j u hu => ?_) hA
    rw [show (⟨b, off, none⟩ : Addr).add j = ⟨b, off + j, none⟩ from by unfold Addr.add; split <;> simp_all]
    exact hc j u hu

/-- append of a slice that is read, onto a row of the call's own -/
theorem app_rd (T : SlT P t e size bytes) {ops : Array Oper} {rest : List Oper} {o : Oper} {a : Act} {Q : Exit → Act → World → Prop} {w : World} (s x : Operand)
    (hgd : o.guard = none) (ho : o.op = .call { callee := .builtin .append, args := #[s, x], argTypes := #[t, t] })
    (base : Nat) (v : Value) (n : Nat) (xs : List Value) (hs : a.eval s = v) (hown : w.ownsRow base e size v n xs)
    (B : Nat) (A : Option Addr) (m c : Nat) (news : List Value) (hx : a.eval x = .slice A m c) (hr : Rd w B A news) (hl : news.length = m * size) (h1 : ∀ u ∈ news, u.oneCell' = true)
    (hbytes : (n + m) * bytes ≤ 140737488355328) (hbase : base ≤ w.heap.size) (hsz : 0 < size) (hb0 : 0 < bytes)
    (h : ∀ A' c' w', w'.ownsRow base e size (.slice A' (n + m) c') (n + m) (xs ++ news) → Below base w w' → w.grownBy w' v.ownBlock →
      ((Value.slice A' (n + m) c').ownBlock = v.ownBlock ∨ (Value.slice A' (n + m) c').ownBlock = some w.heap.size) → wpList P ops Q rest (a.put o.dst (.slice A' (n + m) c')) w') : wpList P ops Q (o :: rest) a w := by
  refine wpList_plain hgd fun K hK => ?_
  obtain ⟨A', c', w', hrun, h2, h3, h4⟩ := T.run_append hsz o.type base v n xs hown B A m c news hl hr h1 hbytes hb0 hbase
  unfold Oper.wp execOp
  simp only [ho, resolve, invoke, builtin, Sem.run_bind, Sem.run_pure, Result.andThen_ok, List.map_toArray, List.map_cons, List.map_nil, hs, hx, hrun]
  exact hK _ _ (h A' c' w' h2 ((Below.refl _ _).grown h3 hbase fun k hk => (hown.lt k hk).1) h3 h4)

/-- append of elements that have just been laid into a block of their own -/
theorem app_lit (T : SlT P t e size bytes) {ops : Array Oper} {rest : List Oper} {o : Oper} {a : Act} {Q : Exit → Act → World → Prop} {w : World} (s x : Operand)
    (hgd : o.guard = none) (ho : o.op = .call { callee := .builtin .append, args := #[s, x], argTypes := #[t, t] })
    (cs : Array Value) (base : Nat) (v : Value) (n : Nat) (xs : List Value) (hs : a.eval s = v) (hown : w.ownsRow base e size v n xs)
    (m g : Nat) (hx : a.eval x = .slice (some ⟨g, 0, none⟩) m m) (hg : g = w.heap.size) (hl : cs.size = m * size) (h1 : ∀ u ∈ cs.toList, u.oneCell' = true)
    (hbytes : (n + m) * bytes ≤ 140737488355328) (hbase : base ≤ w.heap.size) (hsz : 0 < size) (hb0 : 0 < bytes)
    (h : ∀ A' c' w', w'.ownsRow base e size (.slice A' (n + m) c') (n + m) (xs ++ cs.toList) → Below base w w' → w.grownBy w' v.ownBlock →
      ((Value.slice A' (n + m) c').ownBlock = v.ownBlock ∨ ∃ k, (Value.slice A' (n + m) c').ownBlock = some k ∧ w.heap.size ≤ k) → wpList P ops Q rest (a.put o.dst (.slice A' (n + m) c')) w') : wpList P ops Q (o :: rest) a (w.alloc (.cells cs e)) := by
  subst hg
  refine app_rd T s x hgd ho base v n xs hs (hown.alloc _) (w.heap.size + 1) _ m m cs.toList hx (Rd.lit w cs e) (by simpa using hl) h1 hbytes (by simp; omega) hsz hb0 ?_
  intro A' c' w' ho' hB hg ha
  refine h A' c' w' ho' (((Below.refl _ _).alloc hbase _).trans hB) (World.grownBy.trans (World.grownBy_alloc w _ _) hg) ?_
  rcases ha with ha | ha
  · exact .inl ha
  · exact .inr ⟨_, ha, by simp⟩
end

theorem own_low {w : World} {b b' : Nat} {e : TypeId} {size : Nat} {v : Value} {n : Nat} {xs : List Value} (h : w.ownsRow b e size v n xs) (hb : b' ≤ b) : w.ownsRow b' e size v n xs := by
  obtain ⟨h1, h2⟩ := h
  refine ⟨h1, h2.imp id fun ⟨g, cap, cur, hv, hg, r⟩ => ⟨g, cap, cur, hv, Nat.le_trans hb hg, r⟩⟩

theorem own_below {w w1 : World} {base : Nat} {e : TypeId} {size n : Nat} {v : Value} {xs : List Value} (h : w.ownsRow base e size v n xs) (hb : Below w.heap.size w w1) : w1.ownsRow base e size v n xs :=
  h.kept (row := none) ⟨hb.os, hb.tape, hb.output, hb.size, fun i hi _ => hb.block i hi⟩ (by cases v.ownBlock <;> simp)
theorem own_drewN {w : World} {base : Nat} {e : TypeId} {size n : Nat} {v : Value} {xs : List Value} (h : w.ownsRow base e size v n xs) (k : Nat) : (w.drewN k).ownsRow base e size v n xs := h
theorem below_drewN {B : Nat} {w w' : World} (h : Below B w w') (n : Nat) : Below B w (w'.drewN n) := ⟨h.os, h.tape, h.output, h.size, h.block⟩

/-- two rows of different element types lie apart -/
theorem own_apart {w : World} {b b' : Nat} {e e' : TypeId} {z z' n n' : Nat} {v v' : Value} {xs xs' : List Value} (h : w.ownsRow b e z v n xs) (h' : w.ownsRow b' e' z' v' n' xs') (hne : e ≠ e') : v.ownBlock = none ∨ v.ownBlock ≠ v'.ownBlock := by
  rcases h.2 with ⟨rfl, _⟩ | ⟨g, cap, cur, rfl, _, hh, _⟩
  · exact .inl rfl
  · refine .inr fun hk => ?_
    rcases h'.2 with ⟨rfl, _⟩ | ⟨g', cap', cur', rfl, _, hh', _⟩
    · simp [Value.ownBlock] at hk
    · have : g = g' := by simpa [Value.ownBlock] using hk
      subst this
      rw [hh] at hh'
      injection hh' with hh'
      injection hh' with _ ht
      exact hne ht
theorem own_grown {w w1 : World} {b b' : Nat} {e e' : TypeId} {z z' n n' : Nat} {v v' : Value} {xs xs' : List Value} (h : w.ownsRow b e z v n xs) (h' : w.ownsRow b' e' z' v' n' xs') (hne : e ≠ e') (hg : w.grownBy w1 v'.ownBlock) : w1.ownsRow b e z v n xs :=
  h.kept hg (own_apart h h' hne)

/-- block g is just the cells cs of type t -/
def Blk (w : World) (g : Nat) (t : TypeId) (cs : Array Value) : Prop := w.heap[g]? = some (.cells cs t (0, 0))
section
variable {w w' : World} {g : Nat} {t : TypeId} {cs : Array Value}
theorem Blk.lt (h : Blk w g t cs) : g < w.heap.size := by
  rcases Nat.lt_or_ge g w.heap.size with hlt | hge
  · exact hlt
  · unfold Blk at h; rw [Array.getElem?_eq_none hge] at h; cases h
theorem Blk.cell (h : Blk w g t cs) (i : Nat) : w.cell? ⟨g, i, none⟩ = cs[i]? := cell_of_row w g i cs t (0, 0) h
theorem Blk.frozen (h : Blk w g t cs) (i : Nat) : w.frozen? ⟨g, i, none⟩ = false := by unfold Blk at h; simp [World.frozen?, h]
theorem Blk.new (w : World) (t : TypeId) (cs : Array Value) : Blk (w.alloc (.cells cs t)) w.heap.size t cs := heap_alloc_new w _
theorem Blk.drewN (h : Blk w g t cs) (n : Nat) : Blk (w.drewN n) g t cs := h
theorem Blk.alloc (h : Blk w g t cs) (o : Obj) : Blk (w.alloc o) g t cs := (Below.heap_alloc w o g h.lt).trans h
theorem Blk.far (h : Blk w g t cs) {p : Addr} (hp : g ≠ p.block) (u : Value) : Blk (w.setCell p u) g t cs := (Below.heap_setCell w p u g hp).trans h
theorem Blk.set_ (h : Blk w g t cs) (i : Nat) (u : Value) : Blk (w.setCell ⟨g, i, none⟩ u) g t (cs.setIfInBounds i u) := by
  unfold Blk at h ⊢
  simp [World.setCell, Array.getElem?_modify, h]
theorem Blk.below {B : Nat} (h : Blk w g t cs) (hb : Below B w w') (hg : g < B) : Blk w' g t cs := (hb.block g hg).trans h
theorem Blk.grown {row : Option Nat} (h : Blk w g t cs) (hb : w.grownBy w' row) (hg : row ≠ some g) : Blk w' g t cs := (hb.block g h.lt (fun e => hg e.symm)).trans h
end

/-- copy of a slice that is read into a row that has just been made -/
theorem cp_fresh {P : Program} {t e : TypeId} {bytes : Nat} (T : SlT P t e 1 bytes) {ops : Array Oper} {rest : List Oper} {o : Oper} {a : Act} {Q : Exit → Act → World → Prop} {w : World} (d s : Operand)
    (hgd : o.guard = none) (ho : o.op = .call { callee := .builtin .copy, args := #[d, s], argTypes := #[t, t] })
    (Z : Array Value) (n m c B base : Nat) (A : Option Addr) (vs : List Value) (hZ : Z.size = n) (hvs : vs.length = n) (hd : a.eval d = .slice (some ⟨w.heap.size, 0, none⟩) n n) (hs : a.eval s = .slice A m c) (hmn : m = n)
    (hr : Rd w B A vs) (h1 : ∀ u ∈ vs, u.oneCell' = true) (hm : n ≤ maxLen) (hbase : base ≤ w.heap.size)
    (h : ∀ w', w'.ownsRow base e 1 (.slice (some ⟨w.heap.size, 0, none⟩) n n) n vs → Below w.heap.size w w' → wpList P ops Q rest (a.put o.dst (.int .i64 n)) w') : wpList P ops Q (o :: rest) a (w.alloc (.cells Z e)) := by
  subst hmn
  have hsz : (P.info? e).map (·.size) = some 1 := by
    obtain ⟨i, hi, hzz⟩ := Option.map_eq_some_iff.1 T.hi
    simp only [Prod.mk.injEq] at hzz
    rw [hi]; simp [hzz.1]
  refine wpList_copy_splice hgd d s t t ho e T.ht hsz (some ⟨w.heap.size, 0, none⟩) A m m m c hd hs w.heap.size 0 Z.toList e (by simpa using heap_alloc_new w (.cells Z e)) vs (by simp [hvs])
    (fun hp => ⟨rfl, ?_⟩) (by simp; omega) h1 w.heap.size w ((Below.refl _ _).alloc (Nat.le_refl _) _) (Nat.le_refl _) ?_
  · obtain ⟨b, off, hA, hb, hc⟩ := hr hp
    refine ⟨_, hA, fun j v hv => ?_⟩
    rw [show (⟨b, off, none⟩ : Addr).add j = ⟨b, off + j, none⟩ from by unfold Addr.add; split <;> simp_all]
    have hcell := hc j v hv
    have hbl : b < w.heap.size := World.block_lt_of_cell? w _ hcell
    exact (World.cell?_alloc_lt w _ _ hbl).trans hcell
  · intro w' hH hB
    have hw := hH.out
    have hsp : splice Z.toList 0 vs = vs := by simp [splice, hvs, hZ]
    rw [hsp] at hw
    rw [hvs]
    refine h w' ?_ hB
    refine ⟨by omega, .inr ⟨w.heap.size, m, vs.toArray, rfl, hbase, hw, Nat.le_refl _, hm, by simp [hvs], by simp [← hvs]⟩⟩

/-- make([]T, n) -/
theorem SlT.run_make {P : Program} {t e : TypeId} {bytes : Nat} (T : SlT P t e 1 bytes) (z : Value) (hz : (P.info? e).map (fun i => i.zero) = some (some z)) (h1 : z.cells = #[z]) (kl kc : IntKind) (n m : Int) (h0 : 0 ≤ n) (hnm : n ≤ m) (hb : m * bytes ≤ 281474976710656) (hb0 : 0 < bytes) (w : World) :
    (Instr.makeSlice t (.int kl n) (.int kc m)).run P w = .ok (.slice (some ⟨w.heap.size, 0, none⟩) n.toNat m.toNat) (w.alloc (.cells (madeCells #[z] m.toNat) e)) := by
  obtain ⟨i, hi, hzz⟩ := Option.map_eq_some_iff.1 T.hi
  simp only [Prod.mk.injEq] at hzz
  obtain ⟨hz1, hz2, _⟩ := hzz
  have hz0 : i.zero = some z := by rw [hi] at hz; simpa using hz
  have hm : (i.bytes : Int) * m ≤ 281474976710656 := by rw [hz2, Int.mul_comm]; exact hb
  have h63 : m ≤ 9223372036854775807 := by
    have h2 : m * 1 ≤ m * (bytes : Int) := Int.mul_le_mul_of_nonneg_left (by omega) (by omega)
    omega
  have := Go.run_make (P := P) w t e i z T.ht hi hz0 kl kc n m h0 hnm hm h63
  rw [this, h1, hz1, Nat.mul_one]

/-- v is a slice in new memory that owns the bytes l -/
def FB (e : TypeId) (base : Nat) (w' : World) (A : Option Addr) (c : Nat) (l : List UInt8) : Prop := w'.ownsRow base e 1 (.slice A l.length c) l.length (bv l)
theorem FB.rd {e : TypeId} {base : Nat} {w' : World} {A : Option Addr} {c : Nat} {l : List UInt8} (h : FB e base w' A c l) : Rd w' w'.heap.size A (bv l) := Rd.of_own h
theorem FB.nil (e : TypeId) (base : Nat) (w : World) : FB e base w none 0 [] := World.ownsRow_nil _ _ _ _

theorem ret_bv {e : TypeId} {base : Nat} {w' : World} {v : Value} {n : Nat} {l : List UInt8} (h : w'.ownsRow base e 1 v n (bv l)) : n = l.length := by
  have := h.1; rw [bv_len] at this; omega
end Go.Proofs.YtamodllgeabpoaaDoor
