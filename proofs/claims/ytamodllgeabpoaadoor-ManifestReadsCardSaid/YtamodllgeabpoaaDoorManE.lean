/- Contracts: the reference's take, the program's reader of numbers. -/
import Derived.Test.YtamodllgeabpoaaDoorManD
import Derived.Test.YtamodllgeabpoaaDoorSpecD
import Derived.Deep.QuietTactic
import Derived.BigQuiet
namespace Go.Proofs.YtamodllgeabpoaaDoor
open Go.RowKit

def retT : Except Int (Nat × Nat) → Value
  | .ok (v, p) => .tuple #[.int .i64 v, .int .i64 p, .int .i64 0]
  | .error e => .tuple #[.int .i64 0, .int .i64 0, .int .i64 e]
theorem retT_ok {r : Except Int (Nat × Nat)} {v p : Nat} {x y : Int} (h : r = .ok (v, p)) (hx : x = v) (hy : y = p) : Ending.returned (.tuple #[.int .i64 x, .int .i64 y, .int .i64 0]) = .returned (retT r) := by
  rw [h, hx, hy]; rfl
theorem retT_err {r : Except Int (Nat × Nat)} {e : Int} (h : r = .error e) : Ending.returned (.tuple #[.int .i64 0, .int .i64 0, .int .i64 e]) = .returned (retT r) := by rw [h]; rfl

set_option maxRecDepth 100000 in
set_option maxHeartbeats 2000000 in
theorem take_ok (A : Option Addr) (c B : Nat) (l : List UInt8) (at_ before : Nat) (w : World) (hr : Rd w B A (bv l)) (hl : l.length ≤ 140737488355328) (hat : at_ ≤ 9223372036854775807) (hbe : before ≤ 9223372036854775807) :
    Calls Tryd.prog 47 #[.slice A l.length c, .int .i64 at_, .int .i64 before] w fun e w' => e = .returned (retT (rdN l at_ before)) ∧ w = w' := by
  have hc := refReadUint_ok A c B l at_ w hr hl hat
  cases hu : readU l at_ with
  | error e =>
    have he : (e != 0) = true := bne_iff_ne.2 (readU_err hu)
    have HB : Hd (rdN l at_ before = .error e) := ⟨by unfold rdN; rw [hu]⟩
    rw [hu] at hc
    have HC := Hd.mk hc
    clear hc hr hu
    go_enter Tryd.func47, Tryd.ntmps47
    go_wp2_with (go_at_call 75; refine HC.out.mono ?_; rintro e w' ⟨rfl, rfl⟩; simp only [retU])
    go_ret3
    exact ⟨retT_err HB.out, rfl⟩
  | ok x =>
    obtain ⟨v, p⟩ := x
    obtain ⟨k1, k2, k3, k4⟩ := readU_ok hu
    have HB : Hd (rdN l at_ before = if 9223372036854775807 - before < v then .error 85 else .ok (before + v, p)) := ⟨by unfold rdN; rw [hu]⟩
    rw [hu] at hc
    have HC := Hd.mk hc
    have K3 := Hd.mk k3
    clear hc hr hu k3
    have hcv : IntKind.u64.wrap ((9223372036854775807 : Int) - before) = 9223372036854775807 - before := wrap_u64 (by omega) (by omega)
    go_enter Tryd.func47, Tryd.ntmps47
    go_wp2_with (go_at_call 75; refine HC.out.mono ?_; rintro e w' ⟨rfl, rfl⟩; simp only [retU])
    · go_ret3
      exact ⟨retT_err (by rw [HB.out, if_pos (by omega)]), rfl⟩
    · go_ret3
      exact ⟨retT_ok (by rw [HB.out, if_neg (by omega)]) (by omega) rfl, rfl⟩

theorem Rd.grown {w w' : World} {B g : Nat} {A : Option Addr} {vs : List Value} (h : Rd w B A vs) (hg : w.grownBy w' (some g)) (hB : B ≤ g) : Rd w' B A vs := by
  intro h0
  obtain ⟨b, off, e, hl, hc⟩ := h h0
  refine ⟨b, off, e, hl, fun j u hu => hg.cell (hc j u hu) ?_⟩
  intro hh
  have : b = g := by simpa using hh
  omega
theorem grown_set {w w' : World} {b : Nat} (h : w.grownBy w' (some b)) (i : Nat) (u : Value) : w.grownBy (w'.setCell ⟨b, i, none⟩ u) (some b) :=
  ⟨h.os, h.tape, h.output, by simpa [World.setCell] using h.size, fun k hk hne => (Below.heap_setCell w' _ u k (fun e => hne (by rw [e]))).trans (h.block k hk hne)⟩
theorem grown_drewN {w w' : World} {row : Option Nat} (h : w.grownBy w' row) (n : Nat) : w.grownBy (w'.drewN n) row := ⟨h.os, h.tape, h.output, h.size, h.block⟩

theorem quiet_left {P : Program} {f : FuncId} {args : Array Value} {w : World} {n : Nat} {v : Value}
    (h : Calls P f args (w.drewN n) fun e w' => e = .returned v ∧ w.drewN n = w') : Calls P f args (w.drewN n) fun e w'' => e = .returned v ∧ ∃ m, w'' = w.drewN m :=
  h.mono fun _ _ ⟨he, hm⟩ => ⟨he, n, hm.symm⟩
theorem nx_ret {l : List UInt8} {at_ : Nat} {e e' : Int} {n p : Nat} {x : Int} {w w' : World} {g : Nat} {A : Option Addr} {c : Nat} (h : nx l at_ e = (n, p, e')) (hx : x = n) (hn : n ≤ 9223372036854775807) (hp : p ≤ max at_ l.length)
    (hB : Blk w' g 84 #[.slice A l.length c, .int .i64 p, .int .i64 e']) (hg : w.grownBy w' (some g)) :
    ∃ n p e', Ending.returned (.int .i64 x) = .returned (.int .i64 (n : Nat)) ∧ Blk w' g 84 #[.slice A l.length c, .int .i64 (p : Nat), .int .i64 e'] ∧ w.grownBy w' (some g) ∧ n ≤ 9223372036854775807 ∧ p ≤ max at_ l.length ∧ Hd (nx l at_ e = (n, p, e')) := ⟨n, p, e', by rw [hx], hB, hg, hn, hp, ⟨h⟩⟩

set_option maxRecDepth 100000 in
set_option maxHeartbeats 2000000 in
theorem next_ok (A : Option Addr) (c g : Nat) (l : List UInt8) (at_ : Nat) (e : Int) (w : World) (hr : Rd w g A (bv l)) (hl : l.length ≤ 140737488355328) (hat : at_ ≤ 9223372036854775807)
    (hB : Blk w g 84 #[.slice A l.length c, .int .i64 at_, .int .i64 e]) :
    Calls Tryd.prog 44 #[.pointer (some ⟨g, 0, none⟩)] w fun r w' => ∃ n p e', r = .returned (.int .i64 (n : Nat)) ∧ Blk w' g 84 #[.slice A l.length c, .int .i64 (p : Nat), .int .i64 e'] ∧ w.grownBy w' (some g) ∧ n ≤ 9223372036854775807 ∧ p ≤ max at_ l.length ∧ Hd (nx l at_ e = (n, p, e')) := by
  have c0 := (hB.cell 0).trans (show _ = some (Value.slice A l.length c) from rfl)
  have c1 := (hB.cell 1).trans (show _ = some (Value.int .i64 at_) from rfl)
  have c2 := (hB.cell 2).trans (show _ = some (Value.int .i64 e) from rfl)
  have fz := hB.frozen 2
  have fz1 := hB.frozen 1
  have hgl := hB.lt
  by_cases h0 : e = 0
  · subst h0
    have hc := fun k => readUint_ok A c g l at_ (w.drewN k) hr hl hat
    cases hu : readU l at_ with
    | error er =>
      have he : (er != 0) = true := bne_iff_ne.2 (readU_err hu)
      have he2 : (er == 0) = false := beq_eq_false_iff_ne.2 (readU_err hu)
      have HN := Hd.mk (show nx l at_ 0 = (0, at_, er) by unfold nx rdN; rw [hu]; rfl)
      rw [hu] at hc
      simp only [retU] at hc
      have HC := Hd.mk hc
      have HB := Hd.mk hB
      clear hc hr hu hB
      go_enter Tryd.func44, Tryd.ntmps44
      go_wp2_with fail
      go_quiet ((go_at_call 74; exact quiet_left (HC.out _)))
      go_wp2_with fail
      go_ret
      exact nx_ret HN.out rfl (by omega) (by omega) ((HB.out.drewN _).set_ 2 _) (grown_set (grown_drewN (World.grownBy.refl w _) _) 2 _)
    | ok x =>
      obtain ⟨v, p⟩ := x
      obtain ⟨k1, k2, k3, k4⟩ := readU_ok hu
      have HN := Hd.mk (show nx l at_ 0 = if 9223372036854775807 < v then (0, at_, 85) else (v, p, 0) by unfold nx rdN; rw [hu]; simp only [ne_eq, not_true, if_false]; by_cases h : 9223372036854775807 < v <;> simp [h])
      have K3 := Hd.mk k3
      rw [hu] at hc
      simp only [retU] at hc
      have HC := Hd.mk hc
      have HB := Hd.mk hB
      clear hc hr hu hB k3
      go_enter Tryd.func44, Tryd.ntmps44
      go_wp2_with fail
      go_quiet ((go_at_call 74; exact quiet_left (HC.out _)))
      go_wp2_with fail
      · go_ret
        exact nx_ret (n := 0) (p := at_) (by rw [HN.out, if_pos (by omega)]) rfl (by omega) (by omega) ((HB.out.drewN _).set_ 2 _) (grown_set (grown_drewN (World.grownBy.refl w _) _) 2 _)
      · go_ret
        exact nx_ret (by rw [HN.out, if_neg (by omega)]) (by omega) (by omega) (by omega) ((HB.out.drewN _).set_ 1 _) (grown_set (grown_drewN (World.grownBy.refl w _) _) 1 _)
  · have he : (e != 0) = true := bne_iff_ne.2 h0
    have HN := Hd.mk (nx_bad (l := l) (at_ := at_) h0)
    have HB := Hd.mk hB
    clear hB hr
    go_enter Tryd.func44, Tryd.ntmps44
    go_wp2_with fail
    go_ret
    exact nx_ret HN.out rfl (by omega) (by omega) HB.out (World.grownBy.refl w _)
end Go.Proofs.YtamodllgeabpoaaDoor
