/- Plain lemmas: what an argument reads as (bytes, whole numbers, a table of whole numbers). No program in sight. -/
import Derived.Test.YtamodllgeabpoaaDoorBase
import Derived.Test.YtamodllgeabpoaaDoorSpecB
import Derived.OpenShut
import Derived.Deep.Slices
namespace Go.Proofs.YtamodllgeabpoaaDoor
open Go.RowKit Go.ChangeShapes Go.WideShapes

theorem spot_none {W : World} {p : Addr} {v : Value} (h : W.cell? p = some v) : p.spot = none := by
  unfold World.cell? at h
  split at h
  · split at h
    · cases h
    · rename_i h1; simpa using h1
  · cases h
section
variable {H : Type} {enc : TypeId × Value → H} {P : Program} {W : World} {base : Nat} {spare : Nat → Bool} {held : Bool}
theorem open_rd_bytes {t e : TypeId} {fuel : Nat} {cs : List Value} {x : DataW H × List MemPlace} (ht : P.underlying t = some (.slice e)) (he : P.underlying e = some (.int .u8)) (hc : P.cellsOf e = 1)
    (h : DataW.trod enc P W base spare held fuel t cs = some x) :
    ∃ A c l, cs = [.slice A l.length c] ∧ l.length ≤ c ∧ c ≤ maxLen ∧ Rd W W.heap.size A (bv l) := by
  rcases open_ints ht he hc h with ⟨rfl, _⟩ | ⟨a, len, cap, zs, rfl, _, hl, hm, hz, _, hcell, hwz⟩
  · exact ⟨none, 0, [], rfl, Nat.le_refl _, Nat.zero_le _, Rd.nil _ _ _⟩
  · have hlen : len ≤ zs.length := by rw [hz]; split <;> omega
    have hL : ((zs.take len).map fun n => UInt8.ofNat n.toNat).length = len := by simp; omega
    refine ⟨some a, cap, (zs.take len).map fun n => UInt8.ofNat n.toNat, by rw [hL], by rw [hL]; exact hl, hm, ?_⟩
    intro h0
    rw [bv_len, hL] at h0
    have hc0 := hcell 0 (by omega)
    have hs : a.spot = none := by
      have := spot_none hc0
      unfold Addr.add at this
      simpa using this
    obtain ⟨b, off, sp⟩ := a
    obtain rfl : sp = none := hs
    refine ⟨b, off, rfl, ?_, fun j u hu => ?_⟩
    · exact World.block_lt_of_cell? W ⟨b, off, none⟩ (by rw [show (⟨b, off, none⟩ : Addr).add 0 = ⟨b, off, none⟩ from by unfold Addr.add; simp] at hc0; exact hc0)
    · have hj : j < len := by
        have := (List.getElem?_eq_some_iff.1 hu).1
        rw [bv_len, hL] at this
        exact this
      have h1 := hcell j (by omega)
      rw [show (⟨b, off, none⟩ : Addr).add j = ⟨b, off + j, none⟩ from by unfold Addr.add; split <;> simp_all] at h1
      rw [h1, ← hu]
      have hjz : j < zs.length := by omega
      have hw := bounds_u8 (hwz zs[j] (List.getElem_mem _))
      simp only [bv, List.map_map, List.getElem?_map, List.getElem?_take, hj, if_true]
      rw [List.getElem?_eq_getElem hjz]
      simp only [Option.map_some, Function.comp, List.getD, List.getElem?_eq_getElem hjz, Option.getD_some]
      have : ((UInt8.ofNat zs[j].toNat).toNat : Int) = zs[j] := by simp; omega
      rw [this]
theorem tab_of_trod {t e : TypeId} {n fuel : Nat} {cs : List Value} {x : DataW H × List MemPlace} {l : List Int} (ht : P.underlying t = some (.array n e)) (he : P.underlying e = some (.int .u32)) (hc : P.cellsOf e = 1)
    (h : DataW.trod enc P W base spare held fuel t cs = some x) (hx : x.1 = .agg (l.map fun z => .lit (.int .u32 z))) : ∀ i, i < n → cs[i]? = some (.int .u32 (l.getD i 0)) := by
  obtain ⟨xs, m, rfl, rfl, hlen, hxl, hel⟩ := DataW.trod_array ht h
  intro i hi
  have h1 := hel i hi
  rw [hc, Nat.mul_one] at h1
  have hxi : i < xs.length := by omega
  rw [List.getElem?_eq_getElem hxi] at h1
  obtain ⟨k, e1, e2, _⟩ := DataW.trod_int he h1
  have hx' : xs.map (·.1) = l.map fun z => DataW.lit (.int .u32 z) := by simpa using hx
  have h2 : (xs.map (·.1))[i]? = (l.map fun z => (DataW.lit (.int .u32 z) : DataW H))[i]? := by rw [hx']
  have hll : l.length = xs.length := by have := congrArg List.length hx'; simpa using this.symm
  rw [List.getElem?_map, List.getElem?_map, List.getElem?_eq_getElem hxi, List.getElem?_eq_getElem (show i < l.length by omega), e2] at h2
  simp only [Option.map_some, Option.some.injEq, DataW.lit.injEq, Lit.int.injEq, true_and] at h2
  have h3 : (cs.drop i)[0]? = some (.int .u32 k) := by
    have := congrArg (fun z => z[0]?) e1
    simpa using this
  rw [List.getElem?_drop] at h3
  simp only [Nat.add_zero] at h3
  rw [h3, h2]
  simp [List.getD, List.getElem?_eq_getElem (show i < l.length by omega)]
end
end Go.Proofs.YtamodllgeabpoaaDoor
