/- Contracts: the reference's heads of a manifest. -/
import Derived.Test.YtamodllgeabpoaaDoorManG
namespace Go.Proofs.YtamodllgeabpoaaDoor
open Go.RowKit

/-- what the reference's heads answers -/
def HdPost (w : World) (r : Except Int (List Nat × Nat)) (e : Ending) (w' : World) : Prop :=
  (∀ er, r = .error er → e = .returned (.tuple #[.slice none 0 0, .int .i64 0, .int .i64 er])) ∧
  (∀ hs p, r = .ok (hs, p) → ∃ A c, e = .returned (.tuple #[.slice A hs.length c, .int .i64 (p : Nat), .int .i64 0]) ∧ w'.ownsRow w.heap.size 3 1 (.slice A hs.length c) hs.length (nv hs)) ∧ Below w.heap.size w w'
theorem rdHeads_len {l : List UInt8} (k : Nat) : ∀ {at_ : Nat} {acc hs : List Nat} {p : Nat}, rdHeads l k at_ acc = .ok (hs, p) → hs.length = acc.length + k ∧ (p ≤ l.length ∨ p = at_) := by
  induction k with
  | zero => intro at_ acc hs p h; simp only [rdHeads] at h; injection h with h; injection h with h1 h2; subst h1; subst h2; exact ⟨rfl, .inr rfl⟩
  | succ k ih =>
    intro at_ acc hs p h
    rw [rdHeads] at h
    cases hu : rdN l at_ 0 with
    | error e => rw [hu] at h; cases h
    | ok x =>
      obtain ⟨n, q⟩ := x
      rw [hu] at h
      have h2 := rdN_ok hu (by omega)
      have := ih (show rdHeads l k q (acc ++ [n]) = .ok (hs, p) from h)
      simp at this
      omega
theorem rdHeads_err {l : List UInt8} (k : Nat) : ∀ {at_ : Nat} {acc : List Nat} {e : Int}, rdHeads l k at_ acc = .error e → e ≠ 0 := by
  induction k with
  | zero => intro at_ acc e h; cases h
  | succ k ih =>
    intro at_ acc e h
    rw [rdHeads] at h
    cases hu : rdN l at_ 0 with
    | error e' => rw [hu] at h; injection h with h; subst h; exact rdN_err hu
    | ok x => obtain ⟨n, q⟩ := x; rw [hu] at h; exact ih h

set_option maxRecDepth 100000 in
set_option maxHeartbeats 2000000 in
theorem heads_ok (A : Option Addr) (c : Nat) (l : List UInt8) (w : World) (hr : Rd w w.heap.size A (bv l)) (hl : l.length ≤ 140737488355328) :
    Calls Tryd.prog 46 #[.slice A l.length c] w (HdPost w (rdHeads l 5 1 [])) := by
  have HTK := Hd.mk fun (at_ : Nat) (W : World) (B : Nat) (h : Rd W B A (bv l)) (h2 : at_ ≤ 9223372036854775807) => take_ok A c B l at_ 0 W h hl h2 (by omega)
  have HR := Hd.mk hr
  clear hr
  go_enter Tryd.func46, Tryd.ntmps46
  go_wp2_with fail
  go_loopw [5, 6, 7] (fun nums at_ i wr => ∃ (k : Nat) (A1 : Option Addr) (c1 p : Nat) (acc : List Nat), k ≤ 5 ∧ i = .int .i64 k ∧ nums = .slice A1 k c1 ∧ at_ = .int .i64 p ∧ wr.ownsRow w.heap.size 3 1 (.slice A1 k c1) k (nv acc) ∧ Below w.heap.size w wr ∧ p ≤ l.length + 1 ∧ Hd (rdHeads l 5 1 [] = rdHeads l (5 - k) p acc)) (fun _ _ i _ => 5 - (intOf i).toNat)
  case atStart => exact ⟨0, none, 0, 1, [], by omega, rfl, rfl, rfl, World.ownsRow_nil _ _ _ _, Below.refl _ _, by omega, ⟨rfl⟩⟩
  case round =>
    obtain ⟨k, A1, c1, p, acc, hk, rfl, rfl, rfl, ho, hb, hp, H⟩ := hrel
    have hz := hb.size
    by_cases hlt : k < 5
    · obtain ⟨j, hj⟩ : ∃ j, 5 - k = j + 1 := ⟨4 - k, by omega⟩
      have hc := HTK.out p wr w.heap.size (HR.out.below hb (Nat.le_refl _)) (by omega)
      cases hu : rdN l p 0 with
      | error er =>
        have he : (er != 0) = true := bne_iff_ne.2 (rdN_err hu)
        have HE := Hd.mk (show rdHeads l 5 1 [] = .error er by rw [H.out, hj, rdHeads, hu]; rfl)
        rw [hu] at hc
        simp only [retT] at hc
        have HC := Hd.mk hc
        clear hc hu
        go_wp2_with (go_at_call 47; refine HC.out.mono ?_; rintro e w' ⟨rfl, rfl⟩)
        go_ret3
        exact ⟨fun er' h => (by rw [HE.out] at h; injection h with h; subst h; rfl), fun hs q h => (by rw [HE.out] at h; cases h), hb⟩
      | ok x =>
        obtain ⟨n, q⟩ := x
        have hq := rdN_ok hu (by omega)
        have HE := Hd.mk (show rdHeads l 5 1 [] = rdHeads l j q (acc ++ [n]) by rw [H.out, hj, rdHeads, hu]; rfl)
        rw [hu] at hc
        simp only [retT] at hc
        have HC := Hd.mk hc
        have hq2 := hq.2.1
        have hq3 := hq.2.2.2.1
        clear hc hu hq
        go_wp2_with (first
          | (go_at_call 47; refine HC.out.mono ?_; rintro e w' ⟨rfl, rfl⟩)
          | (at_builtin; refine app_lit Ti (.tmp 25) (.tmp 27) rfl rfl _ w.heap.size (.slice A1 k c1) _ (nv acc) rfl ho 1 _ rfl rfl rfl (by simp; rfl) (by omega) hz (by omega) (by omega) ?_; intro A6 c6 w6 ho6 hb6 hg6 ha6))
        go_roundw
        case rel =>
          refine ⟨k + 1, A6, c6, q, acc ++ [n], by omega, by go_num, rfl, rfl, by rw [nv_app]; exact ho6, hb.trans hb6, by omega, ⟨by rw [HE.out, show 5 - (k + 1) = j from by omega]⟩⟩
        case measure => simp [intOf]; omega
    · obtain rfl : k = 5 := by omega
      have HE := Hd.mk (show rdHeads l 5 1 [] = .ok (acc, p) by rw [H.out]; rfl)
      have hlen : acc.length = 5 := by have := ho.1; simp [nv] at this; omega
      go_wp2_with fail
      go_ret3
      refine ⟨fun er' h => (by rw [HE.out] at h; cases h), fun hs q h => ?_, hb⟩
      rw [HE.out] at h
      injection h with h; injection h with h1 h2; subst h1; subst h2
      exact ⟨A1, c1, by rw [hlen]; rfl, by rw [hlen]; exact ho⟩
end Go.Proofs.YtamodllgeabpoaaDoor
