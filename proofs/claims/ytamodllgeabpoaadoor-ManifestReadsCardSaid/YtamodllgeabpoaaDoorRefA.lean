/- Contracts of the reference's functions of layer 1. -/
import Derived.Test.YtamodllgeabpoaaDoorWire
namespace Go.Proofs.YtamodllgeabpoaaDoor
open Go.RowKit

set_option maxRecDepth 100000 in
set_option maxHeartbeats 400000 in
theorem refUint_ok (v : Nat) (hv : Lt64 v) (w : World) :
    Calls Tryd.prog 41 #[.int .u64 v] w fun e w' => ∃ A c, e = .returned (.slice A (leb v).length c) ∧ FB 5 w.heap.size w' A c (leb v) ∧ Below w.heap.size w w' := by
  go_enter Tryd.func41, Tryd.ntmps41
  go_wp2_with fail
  go_loopw [0, 3] (fun v0 out wr => ∃ (x : Nat) (l : List UInt8) (A : Option Addr) (c : Nat), v0 = .int .u64 x ∧ out = .slice A l.length c ∧ FB 5 w.heap.size wr A c l ∧ Below w.heap.size w wr ∧ Lt64 x ∧ Hd (l ++ leb x = leb v))
    (fun v0 _ _ => (intOf v0).toNat)
  case atStart => exact ⟨v, [], none, 0, rfl, rfl, World.ownsRow_nil _ _ _ _, Below.refl _ _, hv, ⟨by simp⟩⟩
  case round =>
    obtain ⟨x, l, A, c, rfl, rfl, ho, hb, hx, H⟩ := hrel
    have hl : l.length ≤ 10 := by have h1 := congrArg List.length H.out; have h2 := leb_ten hv; rw [List.length_append] at h1; omega
    have hs := hb.size
    by_cases h128 : 128 ≤ x
    · go_wp2_with (at_builtin; refine app_lit Tb (.tmp 6) (.tmp 11) rfl rfl _ w.heap.size _ _ _ rfl ho 1 _ rfl (by simp) rfl (by simp; rfl) (by omega) hs (by omega) (by omega) ?_; intro A1 c1 w1 ho1 hb1 _ _)
      go_roundw
      case rel =>
        exact ⟨x / 128, l ++ [UInt8.ofNat (x % 128 + 128)], A1, c1, congrArg (Value.int .u64) ((wrap_u64 (by omega) (by have := hx.out; omega)).trans (by omega)), by simp, FBmk ho1 (by simp) (bv_snoc l _ (by rw [UInt8.toNat_ofNat']; omega)), hb.trans hb1, ⟨by have := hx.out; omega⟩, ⟨by rw [List.append_assoc, List.singleton_append, ← leb_ge h128]; exact H.out⟩⟩
      case measure => have := hx.out; simp only [intOf]; rw [wrap_u64 (by omega) (by omega)]; omega
    · go_wp2_with (at_builtin; refine app_lit Tb (.tmp 15) (.tmp 18) rfl rfl _ w.heap.size _ _ _ rfl ho 1 _ rfl (by simp) rfl (by simp; rfl) (by omega) hs (by omega) (by omega) ?_; intro A1 c1 w1 ho1 hb1 _ _)
      go_ret
      have e : l ++ [UInt8.ofNat x] = leb v := by rw [← H.out, leb_lt (by omega)]
      have e2 : l.length + 1 = (leb v).length := by rw [← e]; simp
      rw [e2] at ho1 ⊢
      exact ⟨A1, c1, rfl, FBmk ho1 rfl (by rw [← e]; exact bv_snoc l _ (ofNat_small (by omega))), hb.trans hb1⟩

set_option maxRecDepth 100000 in
set_option maxHeartbeats 400000 in
theorem refReadUint_ok (A : Option Addr) (c B : Nat) (l : List UInt8) (at_ : Nat) (w : World) (hr : Rd w B A (bv l)) (hl : l.length ≤ 140737488355328) (hat : at_ ≤ 9223372036854775807) :
    Calls Tryd.prog 75 #[.slice A l.length c, .int .i64 at_] w fun e w' => e = .returned (retU (readU l at_)) ∧ w = w' := by
  by_cases h1 : l.length < at_
  · go_enter Tryd.func75, Tryd.ntmps75
    go_wp2
    go_ret3
    exact ⟨by rw [readU, if_pos h1]; rfl, rfl⟩
  · go_enter Tryd.func75, Tryd.ntmps75
    go_wp2_with fail
    go_loop [7] (fun i => ∃ n : Nat, n ≤ 9 ∧ i = .int .i64 n ∧ at_ + n ≤ l.length ∧ Hd (readU l at_ = (rdu (l.drop (at_ + n)) n (lsum ((l.drop at_).take n))).map fun (v, k) => (v, at_ + k)))
      (fun i => 10 - (intOf i).toNat)
    case atStart => exact ⟨0, by omega, rfl, by omega, ⟨by rw [readU, if_neg h1]; rfl⟩⟩
    case round =>
      obtain ⟨n, hn, rfl, hle, H⟩ := hrel
      by_cases hlt : at_ + n < l.length
      · obtain ⟨b, off, rfl, hbB, hc⟩ := hr.at_ (bv_get l _ hlt)
        have hb256 := (l[at_ + n]).toNat_lt
        have HH : Hd (readU l at_ = (rdu (l[at_ + n] :: l.drop (at_ + n + 1)) n (lsum ((l.drop at_).take n))).map fun (v, k) => (v, at_ + k)) := ⟨by rw [H.out, List.drop_eq_getElem_cons hlt]⟩
        have HX : Hd ((l.drop at_).take (n + 1) = (l.drop at_).take n ++ [l[at_ + n]]) := ⟨by rw [List.take_succ_eq_append_getElem (by simp; omega)]; simp⟩
        generalize l[at_ + n] = x at *
        go_wp2_with fail
        case roundEnd =>
          go_round
          case rel =>
            exact ⟨n + 1, by omega, by go_num, by omega, ⟨by rw [HH.out, rdu, if_neg (by omega), if_pos (by omega), HX.out, lsum_snoc, List.length_take, List.length_drop, Nat.min_eq_left (by omega), Nat.add_assoc]⟩⟩
          case measure => simp [intOf]; omega
        all_goals first
          | (go_ret3; refine ⟨retU_err ?_, rfl⟩; rw [HH.out, rdu]; first | (rw [if_pos ⟨by omega, by omega⟩]; done) | (rw [if_pos ⟨by omega, by omega⟩]; rfl) | (simp only [beq_iff_eq] at *; rw [if_neg (by omega), if_neg (by omega), if_pos ⟨by omega, by omega⟩]; rfl))
          | skip
        all_goals
          have e0 : ¬ (x.toNat = 0 ∧ 0 < n) := by first | omega | (have q : ((x.toNat : Int) == 0) = false := (by assumption); have := beq_eq_false_iff_ne.1 q; omega)
          have hlt0 := lsum_lt ((l.drop at_).take n)
          rw [List.length_take, List.length_drop, Nat.min_eq_left (by omega)] at hlt0
          have hs64 := or_val_lt (x := x.toNat) hlt0 (by omega) (fun _ => by omega)
          have HV : Hd (readU l at_ = .ok (lsum ((l.drop at_).take (n + 1)), at_ + (n + 1)) ∧ lsum ((l.drop at_).take (n + 1)) < 18446744073709551616) := by
            refine ⟨?_, ?_⟩
            · rw [HH.out, rdu, if_neg (by omega), if_neg (by omega), if_neg e0, HX.out, lsum_snoc, List.length_take, List.length_drop, Nat.min_eq_left (by omega), Nat.mod_eq_of_lt (show x.toNat < 128 by omega)]; rfl
            · rw [HX.out, lsum_snoc, List.length_take, List.length_drop, Nat.min_eq_left (by omega)]; exact hs64
          clear hs64 hlt0 e0 HH HX H hc
          go_loop [9, 10] (fun v i => ∃ k : Nat, k ≤ n + 1 ∧ i = .int .i64 ((k : Int) - 1) ∧ v = .int .u64 (lsum (((l.drop at_).take (n + 1)).drop k))) (fun _ i => (intOf i + 1).toNat)
          case atStart => exact ⟨n + 1, by omega, by go_num, by rw [List.drop_of_length_le (by simp; omega)]; rfl⟩
          case round =>
            obtain ⟨k, hk, rfl, rfl⟩ := hrel
            by_cases hk0 : k = 0
            · subst hk0
              go_wp2_with fail
              go_ret3
              exact ⟨retU_ok HV.out.1 rfl (by omega), rfl⟩
            · obtain ⟨j, rfl⟩ : ∃ j, k = j + 1 := ⟨k - 1, by omega⟩
              rw [show (((j + 1 : Nat) : Int) - 1) = (j : Int) from by omega]
              have hjl : at_ + j < l.length := by omega
              obtain ⟨b', off', he, _, hc⟩ := hr.at_ (bv_get l _ hjl)
              obtain ⟨rfl, rfl⟩ : b = b' ∧ off = off' := by simpa using he
              have hy := (l[at_ + j]).toNat_lt
              have HS : Hd (lsum (((l.drop at_).take (n + 1)).drop j) = (l[at_ + j]).toNat % 128 + 128 * lsum (((l.drop at_).take (n + 1)).drop (j + 1)) ∧ lsum (((l.drop at_).take (n + 1)).drop j) < 18446744073709551616) := by
                refine ⟨?_, Nat.lt_of_le_of_lt (lsum_drop_le _ _) HV.out.2⟩
                rw [List.drop_eq_getElem_cons (by simp; omega)]
                simp [lsum]
              generalize l[at_ + j] = y at *
              go_wp2_with fail
              go_round
              case rel =>
                refine ⟨j, by omega, by go_num, congrArg (Value.int .u64) ?_⟩
                rw [HS.out.1]
                have := HS.out
                generalize lsum (((l.drop at_).take (n + 1)).drop (j + 1)) = V at *
                rw [wrap_u64 (n := (V : Int) * 128) (by omega) (by omega), wrap_u64 (by omega) (by omega)]
                omega
              case measure => simp [intOf]
      · have HH : Hd (readU l at_ = .error 10) := ⟨by rw [H.out, List.drop_of_length_le (by omega)]; rfl⟩
        have hq : ((n : Int) == (l.length : Int) - (at_ : Int)) = true := by simp; omega
        go_wp2_with fail
        all_goals (go_ret3; exact ⟨retU_err HH.out, rfl⟩)
end Go.Proofs.YtamodllgeabpoaaDoor
