/- Contracts: bytes laid into memory of their own with marks behind, and looked at again. -/
import Derived.Test.YtamodllgeabpoaaDoorLawC
namespace Go.Proofs.YtamodllgeabpoaaDoor
open Go.RowKit

def mk5 : List UInt8 := [201, 202, 203, 204, 205]
theorem own_pos {w : World} {base n c size : Nat} {e : TypeId} {A : Option Addr} {xs : List Value} (h : w.ownsRow base e size (.slice A n c) n xs) (hn : 0 < n) : ∃ g, A = some ⟨g, 0, none⟩ ∧ base ≤ g ∧ g < w.heap.size := by
  obtain ⟨g, cap, e, h1, h2⟩ := h.form hn
  injection e with e1 e2 e3
  exact ⟨g, e1, h1, h2⟩

set_option maxRecDepth 100000 in
set_option maxHeartbeats 2000000 in
theorem laid_ok (A : Option Addr) (c : Nat) (l : List UInt8) (w : World) (hr : Rd w w.heap.size A (bv l)) (hl : l.length ≤ 1000000) :
    Calls Tryd.prog 21 #[.slice A l.length c] w fun e w' => ∃ g c', e = .returned (.slice (some ⟨g, 0, none⟩) l.length c') ∧
      w'.ownsRow w.heap.size 5 1 (.slice (some ⟨g, 0, none⟩) (l.length + 5) c') (l.length + 5) (bv (l ++ mk5)) ∧ Below w.heap.size w w' := by
  have HR := Hd.mk hr
  have H1 := Hd.mk (bv_one l)
  have H2 := Hd.mk (bv_one mk5)
  have HLEN := Hd.mk (show (bv l).length = l.length * 1 by rw [bv_len, Nat.mul_one])
  clear hr
  go_enter Tryd.func21, Tryd.ntmps21
  go_wp2_with (first
    | (have hx := HO1; at_builtin; refine app_lit Tb (.tmp 7) (.tmp 8) rfl rfl _ w.heap.size _ l.length (bv l) rfl HO1.out 5 _ rfl rfl rfl H2.out (by omega) hs1 (by omega) (by omega) ?_; intro A2 c2 w2 ho2 hb2 hg2 ha2; obtain ⟨g2, e2, hg0, hl2⟩ := own_pos ho2 (by omega); cases e2; have HO2 := Hd.mk ho2; have HB2 := Hd.mk (HB1.out.trans hb2); have hcap2 := own_cap ho2 (by omega); clear ho2 hb2 hg2 ha2)
    | (at_builtin; refine app_rd Tb (.tmp 4) (.tmp 5) rfl rfl w.heap.size (.slice none 0 0) 0 [] rfl (World.ownsRow_nil _ _ _ _) w.heap.size A l.length c (bv l) rfl HR.out HLEN.out H1.out (by omega) (by simp) (by omega) (by omega) ?_; intro A1 c1 w1 ho1 hb1 hg1 ha1; rw [Nat.zero_add] at ho1 ⊢; rw [List.nil_append] at ho1; have HO1 := Hd.mk ho1; have HB1 := Hd.mk hb1; have hs1 : w.heap.size ≤ w1.heap.size := (by have := hb1.size; simpa using this); clear ho1 hb1 hg1 ha1))
  go_ret
  exact ⟨g2, c2, rfl, by rw [bv_app]; exact HO2.out, HB2.out⟩

set_option maxRecDepth 100000 in
set_option maxHeartbeats 2000000 in
theorem intact_ok (A A' : Option Addr) (c c' B : Nat) (l : List UInt8) (w : World) (hr : Rd w B A' (bv (l ++ mk5))) (hc' : l.length + 5 ≤ c') (hr0 : Rd w B A (bv l)) (hl : l.length ≤ 1000000) :
    Calls Tryd.prog 23 #[.slice A' l.length c', .slice A l.length c] w fun e w' => e = .returned (.bool true) ∧ ∃ n, w' = w.drewN n := by
  have hrl : Rd w B A' (bv l) := by
    have := hr.bvTake l ⟨l.length, by simp⟩
    exact this
  have hne : ((l.length : Int) != (l.length : Int)) = false := by simp
  obtain ⟨b, off, rfl, hb, hcell⟩ := hr (by rw [bv_len]; simp [mk5])
  have hk : ∀ k : Nat, k < 5 → w.cell? ⟨b, off + (l.length + k), none⟩ = some (.int .u8 (201 + (k : Int))) := by
    intro k hk
    refine hcell (l.length + k) _ ?_
    rw [bv_get (l ++ mk5) (l.length + k) (by simp [mk5]; omega)]
    rw [List.getElem_append_right (by omega)]
    match k, hk with
    | 0, _ => simp [mk5]
    | 1, _ => simp [mk5]
    | 2, _ => simp [mk5]
    | 3, _ => simp [mk5]
    | 4, _ => simp [mk5]
  have HS := Hd.mk (sameBytes_ok (some ⟨b, off, none⟩) A c' c B B l w hrl hr0 (by omega))
  have HK := Hd.mk hk
  clear hr hr0 hrl hcell hk
  go_enter Tryd.func23, Tryd.ntmps23
  go_wp2_with (first
    | (go_at_call 16; refine HS.out.mono ?_; rintro e w1 ⟨rfl, q1, rfl⟩))
  go_loopw [6] (fun i wr => ∃ k : Nat, k ≤ 5 ∧ i = .int .i64 k ∧ wr = w.drewN q1) (fun i _ => 5 - (intOf i).toNat)
  case atStart => exact ⟨0, by omega, rfl, rfl⟩
  case round =>
    obtain ⟨k, hk, rfl, rfl⟩ := hrel
    by_cases hlt : k < 5
    · have hcell := HK.out k hlt
      have hn : ((201 + (k : Int)) != (201 + (k : Int))) = false := by simp
      have hw : IntKind.u8.wrap (201 + (k : Int)) = 201 + (k : Int) := by simp [IntKind.wrap, IntKind.signed, IntKind.bits]; omega
      go_wp2_with fail
      go_roundw
      case rel => exact ⟨k + 1, by omega, by go_num, trivial⟩
      case measure => simp [intOf]; omega
    · go_wp2_with fail
      go_ret
      exact ⟨rfl, _, rfl⟩
end Go.Proofs.YtamodllgeabpoaaDoor
