/- Contracts of package wire's functions. -/
import Derived.Test.YtamodllgeabpoaaDoorProg
import Derived.Test.YtamodllgeabpoaaDoorBase
import Derived.Test.YtamodllgeabpoaaDoorSpec
import Derived.Laws.BitsAllLaws
namespace Go.Proofs.YtamodllgeabpoaaDoor
open Go.RowKit

theorem Tb : SlT Tryd.prog 30 5 1 1 := ⟨Tryd.underlying30, by kernel_rfl⟩

theorem or128_fin : ∀ y : Fin 256, y.val ||| 128 = y.val % 128 + 128 := by decide +kernel
theorem or128 (x : Nat) : bits .or .u8 ((x : Int) % 256) 128 = ((UInt8.ofNat (x % 128 + 128)).toNat : Int) := by
  rw [u8_or _ _ (by omega) (by omega) (by omega) (by omega)]
  have h := or128_fin ⟨x % 256, by omega⟩
  rw [show ((x : Int) % 256).toNat = x % 256 from by omega, show (128 : Int).toNat = 128 from rfl]
  simp only at h
  rw [h, UInt8.toNat_ofNat']
  omega
theorem bv_snoc (l : List UInt8) (b : UInt8) {n : Int} (h : n = (b.toNat : Int)) : bv l ++ [.int .u8 n] = bv (l ++ [b]) := by rw [bv_app, h]; rfl
theorem FBmk {e : TypeId} {base n : Nat} {w : World} {A : Option Addr} {c : Nat} {l : List UInt8} {vs : List Value} (h : w.ownsRow base e 1 (.slice A n c) n vs) (hn : n = l.length) (hv : vs = bv l) : FB e base w A c l := by
  subst hn; subst hv; exact h
theorem ofNat_small {x : Nat} (h : x < 256) : (x : Int) = ((UInt8.ofNat x).toNat : Int) := by rw [UInt8.toNat_ofNat']; omega

set_option maxRecDepth 100000 in
set_option maxHeartbeats 400000 in
theorem uint_ok (v : Nat) (hv : Lt64 v) (w : World) :
    Calls Tryd.prog 38 #[.int .u64 v] w fun e w' => ∃ A c, e = .returned (.slice A (leb v).length c) ∧ FB 5 w.heap.size w' A c (leb v) ∧ Below w.heap.size w w' := by
  have hmk : ∀ W : World, (Instr.makeSlice 30 (.int .i64 0) (.int .i64 10)).run Tryd.prog W = .ok (.slice (some ⟨W.heap.size, 0, none⟩) 0 10) (W.alloc (.cells (Array.replicate 10 (.int .u8 0)) 5)) := fun _ => by kernel_rfl
  go_enter Tryd.func38, Tryd.ntmps38
  go_wp2_with fail
  go_loopw [0, 3] (fun v0 out wr => ∃ (x : Nat) (l : List UInt8) (A : Option Addr) (c : Nat), v0 = .int .u64 x ∧ out = .slice A l.length c ∧ FB 5 w.heap.size wr A c l ∧ Below w.heap.size w wr ∧ Lt64 x ∧ Hd (l ++ leb x = leb v))
    (fun v0 _ _ => (intOf v0).toNat)
  case atStart => exact ⟨v, [], _, 10, rfl, rfl, World.ownsRow_made _ _ 10 (Nat.le_refl _) (by decide) rfl, (Below.refl _ _).alloc (Nat.le_refl _) _, hv, ⟨by simp⟩⟩
  case round =>
    obtain ⟨x, l, A, c, rfl, rfl, ho, hb, hx, H⟩ := hrel
    have hl : l.length ≤ 10 := by have h1 := congrArg List.length H.out; have h2 := leb_ten hv; rw [List.length_append] at h1; omega
    have hs := hb.size
    by_cases h128 : 128 ≤ x
    · go_wp2_with (at_builtin; refine app_lit Tb (.tmp 7) (.tmp 11) rfl rfl _ w.heap.size _ _ _ rfl ho 1 _ rfl (by simp) rfl (by simp; rfl) (by omega) hs (by omega) (by omega) ?_; intro A1 c1 w1 ho1 hb1 _ _)
      go_roundw
      case rel =>
        exact ⟨x / 128, l ++ [UInt8.ofNat (x % 128 + 128)], A1, c1, by go_num, by simp, FBmk ho1 (by simp) (bv_snoc l _ (or128 x)), hb.trans hb1, ⟨by have := hx.out; omega⟩, ⟨by rw [List.append_assoc, List.singleton_append, ← leb_ge h128]; exact H.out⟩⟩
      case measure => simp [intOf]; omega
    · go_wp2_with (at_builtin; refine app_lit Tb (.tmp 15) (.tmp 18) rfl rfl _ w.heap.size _ _ _ rfl ho 1 _ rfl (by simp) rfl (by simp; rfl) (by omega) hs (by omega) (by omega) ?_; intro A1 c1 w1 ho1 hb1 _ _)
      go_ret
      have e : l ++ [UInt8.ofNat x] = leb v := by rw [← H.out, leb_lt (by omega)]
      have e2 : l.length + 1 = (leb v).length := by rw [← e]; simp
      rw [e2] at ho1 ⊢
      exact ⟨A1, c1, rfl, FBmk ho1 rfl (by rw [← e]; exact bv_snoc l _ (ofNat_small (by omega))), hb.trans hb1⟩

/-- a number's reading as Go hands it back -/
def retU : Except Int (Nat × Nat) → Value
  | .ok (v, p) => .tuple #[.int .u64 v, .int .i64 p, .int .i64 0]
  | .error e => .tuple #[.int .u64 0, .int .i64 0, .int .i64 e]

theorem retU_ok {r : Except Int (Nat × Nat)} {v p : Nat} {x y : Int} (h : r = .ok (v, p)) (hx : x = v) (hy : y = p) : Ending.returned (.tuple #[.int .u64 x, .int .i64 y, .int .i64 0]) = .returned (retU r) := by
  rw [h, hx, hy]; rfl
theorem retU_err {r : Except Int (Nat × Nat)} {e : Int} (h : r = .error e) : Ending.returned (.tuple #[.int .u64 0, .int .i64 0, .int .i64 e]) = .returned (retU r) := by rw [h]; rfl
theorem wrap_u64 {n : Int} (h0 : 0 ≤ n) (h1 : n < 18446744073709551616) : IntKind.u64.wrap n = n := by
  simp only [IntKind.wrap, IntKind.bits, IntKind.signed]; simp; omega
theorem and127 (x : Nat) (h : x < 256) : bits .and .u8 (x : Int) 127 = ((x % 128 : Nat) : Int) := by
  rw [show (127 : Int) = ((127 : Nat) : Int) from rfl, u8_and_nat x 127 h (by omega), nat_mask7]
theorem or_val {acc x n : Nat} (hacc : acc < 128 ^ n) (hx : x < 256) (hs : acc + x % 128 * 128 ^ n < 18446744073709551616) :
    bits .or .u64 (acc : Int) (IntKind.u64.wrap (IntKind.u64.wrap (bits .and .u8 (x : Int) 127) * 2 ^ (7 * n))) = ((acc + x % 128 * 128 ^ n : Nat) : Int) := by
  have h2 : (2 : Int) ^ (7 * n) = ((128 ^ n : Nat) : Int) := by rw [Int.pow_mul]; norm_cast
  rw [and127 x hx, wrap_u64 (n := ((x % 128 : Nat) : Int)) (by omega) (by omega), h2]
  rw [show ((x % 128 : Nat) : Int) * ((128 ^ n : Nat) : Int) = ((x % 128 * 128 ^ n : Nat) : Int) from by norm_cast]
  rw [wrap_u64 (by omega) (by omega), u64_or_nat _ _ (by omega) (by omega), Nat.or_comm, nat_join (7 * n) _ _ (by rw [Nat.pow_mul]; exact Nat.mul_mod_left _ _) (by rw [Nat.pow_mul]; exact hacc), Nat.add_comm]
theorem or_val_lt {acc x n : Nat} (hacc : acc < 128 ^ n) (hn : n ≤ 9) (h9 : n = 9 → x ≤ 1) : acc + x % 128 * 128 ^ n < 18446744073709551616 := by
  by_cases h : n = 9
  · subst h; have := h9 rfl; have e : (128 : Nat) ^ 9 = 9223372036854775808 := by decide
    rw [e] at hacc ⊢; rw [Nat.mod_eq_of_lt (by omega)]; omega
  · have h1 : 128 ^ n ≤ 128 ^ 8 := Nat.pow_le_pow_right (by omega) (by omega)
    have e : (128 : Nat) ^ 8 = 72057594037927936 := by decide
    rw [e] at h1
    have : x % 128 * 128 ^ n ≤ 127 * 128 ^ n := Nat.mul_le_mul_right _ (by omega)
    omega
theorem or_val_step {acc x n : Nat} (hacc : acc < 128 ^ n) : acc + x % 128 * 128 ^ n < 128 ^ (n + 1) := by
  have : x % 128 * 128 ^ n ≤ 127 * 128 ^ n := Nat.mul_le_mul_right _ (by omega)
  rw [Nat.pow_succ]; omega

set_option maxRecDepth 100000 in
set_option maxHeartbeats 400000 in
theorem readUint_ok (A : Option Addr) (c B : Nat) (l : List UInt8) (at_ : Nat) (w : World) (hr : Rd w B A (bv l)) (hl : l.length ≤ 140737488355328) (hat : at_ ≤ 9223372036854775807) :
    Calls Tryd.prog 74 #[.slice A l.length c, .int .i64 at_] w fun e w' => e = .returned (retU (readU l at_)) ∧ w = w' := by
  by_cases h1 : l.length < at_
  · go_enter Tryd.func74, Tryd.ntmps74
    go_wp2
    go_ret3
    exact ⟨by rw [readU, if_pos h1]; rfl, rfl⟩
  · go_enter Tryd.func74, Tryd.ntmps74
    go_wp2_with fail
    go_loop [7, 8] (fun v i => ∃ (n acc : Nat), n ≤ 9 ∧ v = .int .u64 acc ∧ i = .int .i64 n ∧ at_ + n ≤ l.length ∧ Hd (acc < 128 ^ n ∧ readU l at_ = (rdu (l.drop (at_ + n)) n acc).map fun (v, k) => (v, at_ + k)))
      (fun _ i => 10 - (intOf i).toNat)
    case atStart => exact ⟨0, 0, by omega, rfl, rfl, by omega, ⟨by omega, by rw [readU, if_neg h1]; rfl⟩⟩
    case round =>
      obtain ⟨n, acc, hn, rfl, rfl, hle, H⟩ := hrel
      by_cases hlt : at_ + n < l.length
      · obtain ⟨b, off, rfl, hbB, hc⟩ := hr.at_ (bv_get l _ hlt)
        have hb256 := (l[at_ + n]).toNat_lt
        have HH : Hd (acc < 128 ^ n ∧ readU l at_ = (rdu (l[at_ + n] :: l.drop (at_ + n + 1)) n acc).map fun (v, k) => (v, at_ + k)) :=
          ⟨H.out.1, by rw [H.out.2, List.drop_eq_getElem_cons hlt]⟩
        clear hr H
        generalize l[at_ + n] = x at *
        go_wp2
        all_goals first | go_ret3 | go_round
        · obtain rfl : n = 9 := by omega
          exact ⟨retU_err (by rw [HH.out.2, rdu, if_pos ⟨rfl, by omega⟩]; rfl), rfl⟩
        · obtain rfl : n = 9 := by omega
          exact ⟨retU_err (by rw [HH.out.2, rdu, if_neg (by omega), if_neg (by omega), if_pos ⟨by assumption, by omega⟩]; rfl), rfl⟩
        · obtain rfl : n = 9 := by omega
          have hv := or_val HH.out.1 hb256 (or_val_lt HH.out.1 (by omega) (fun _ => by omega))
          exact ⟨retU_ok (by rw [HH.out.2, rdu, if_neg (by omega), if_neg (by omega), if_neg (by omega)]; rfl) (hv.trans (by rw [Nat.mod_eq_of_lt (by omega)])) (by omega), rfl⟩
        case rel => exact ⟨n + 1, acc + x.toNat % 128 * 128 ^ n, by omega, congrArg (Value.int .u64) (or_val HH.out.1 hb256 (or_val_lt HH.out.1 hn (fun h => by omega))), by go_num, by omega, ⟨or_val_step HH.out.1, by rw [HH.out.2, rdu, if_neg (by omega), if_pos (by omega), Nat.add_assoc]⟩⟩
        case measure => simp [intOf]; omega
        · exact ⟨retU_err (by rw [HH.out.2, rdu, if_neg (by omega), if_neg (by omega), if_pos ⟨by assumption, by assumption⟩]; rfl), rfl⟩
        · have h0 : x.toNat = 0 := by assumption
          have hv := or_val HH.out.1 hb256 (or_val_lt HH.out.1 (by omega) (fun _ => by omega))
          rw [h0] at hv
          exact ⟨retU_ok (v := acc) (p := at_ + (n + 1)) (by rw [HH.out.2, rdu, if_neg (by omega), if_neg (by omega), if_neg (by omega), h0]; simp [Except.map]) (hv.trans (by simp)) (by omega), rfl⟩
        · have hv := or_val HH.out.1 hb256 (or_val_lt HH.out.1 (by omega) (fun _ => by omega))
          exact ⟨retU_ok (by rw [HH.out.2, rdu, if_neg (by omega), if_neg (by omega), if_neg (by omega)]; rfl) (hv.trans (by rw [Nat.mod_eq_of_lt (by omega)])) (by omega), rfl⟩
      · have HH : Hd (readU l at_ = .error 10) := ⟨by rw [H.out.2, List.drop_of_length_le (by omega)]; rfl⟩
        go_wp2
        go_ret3
        exact ⟨by rw [HH.out]; rfl, rfl⟩
end Go.Proofs.YtamodllgeabpoaaDoor
