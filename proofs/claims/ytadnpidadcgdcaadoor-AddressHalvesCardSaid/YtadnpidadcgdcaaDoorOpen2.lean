/-
  Arguments that are slices of int, opened.
-/
import Derived.Test.YtadnpidadcgdcaaDoorOpen
import Derived.Test.YtadnpidadcgdcaaDoorT2
namespace Go.Proofs.YtadnpidadcgdcaaDoor
set_option linter.unusedVariables false
set_option linter.unusedSimpArgs false
open Go.ChangeShapes Go.WideShapes Go.ChangeAt Go.RowKit

set_option maxRecDepth 100000 in
theorem open_il {H : Type} {enc : TypeId × Value → H} {w : World} {r : Reach} {b0 base : Nat} {held : Bool} {v : Value} {d : DataW H} {p : List MemPlace} (hval : Value.okWide Tryd.prog w r b0 24 v) (h : DataW.Trod enc Tryd.prog w base (fun _ => true) held 24 v d p) :
    ∃ xs q cap, v = .slice q xs.length cap ∧ xs.length ≤ cap ∧ IntsAt w v xs := by
  obtain ⟨a, len, cap, rfl⟩ := okWide_slice Tryd.underlying24 hval
  obtain ⟨fuel, hf⟩ := h
  have hone : (Value.slice a len cap).cells.toList = [Value.slice a len cap] := rfl
  rw [hone] at hf
  rcases open_ints Tryd.underlying24 Tryd.underlying3 (by kernel_rfl) hf with ⟨h1, _⟩ | ⟨a', len', cap', zs, h1, _, hlc, hcm, hzl, _, hat, hwf⟩
  · cases h1
    exact ⟨[], none, 0, rfl, by simp, ⟨⟨none, 0, rfl, by simp, fun h => absurd h (by simp)⟩, by simp, by simp⟩⟩
  · cases h1
    simp only [if_true] at hzl
    have hml : maxLen = 9223372036854775807 := rfl
    have htl : (zs.take len).length = len := by rw [List.length_take]; omega
    refine ⟨zs.take len, some a', cap, by rw [htl], by omega, ⟨⟨some a', cap, by rw [htl], by omega, fun hl => ?_⟩, fun x hx => ?_, by omega⟩⟩
    · rw [htl] at hl
      have h0 := hat 0 (by omega)
      have hsp : a'.spot = none := by
        cases hs : a'.spot with
        | none => rfl
        | some q =>
          have e0 : a'.add 0 = a' := by simp [Addr.add]
          rw [e0] at h0
          simp only [World.cell?, hs] at h0
          split at h0 <;> simp at h0
      obtain ⟨b, o, sp⟩ := a'
      simp only at hsp
      subst hsp
      have hadd : ∀ i, (⟨b, o, none⟩ : Addr).add i = ⟨b, o + i, none⟩ := fun i => addr_add b o i
      rw [hadd] at h0
      cases hb : w.heap[b]? with
      | none => simp [World.cell?, hb] at h0
      | some ob =>
        cases ob with
        | cells cs t fz =>
          refine ⟨b, o, cs, t, fz, rfl, hb, ?_⟩
          have hcell : ∀ i, i < zs.length → cs[o + i]? = some (.int .i64 (zs.getD i 0)) := fun i hi => by
            have := hat i hi
            rw [hadd] at this
            simpa [World.cell?, hb] using this
          have hle : o + len ≤ cs.toList.length := by
            have := hcell (len - 1) (by omega)
            have := (Array.getElem?_eq_some_iff.1 this).1
            simp only [Array.length_toList]
            omega
          rw [htl, seg_eq, if_pos hle]
          congr 1
          apply List.ext_getElem
          · simp only [List.length_take, List.length_drop, i64C, List.length_map]
            omega
          · intro i h1 h2
            have hi : i < len := by simp only [List.length_take] at h1; omega
            have := hcell i (by omega)
            have h3 := Array.getElem?_eq_some_iff.1 this
            obtain ⟨h4, h5⟩ := h3
            simp only [List.getElem_take, List.getElem_drop, Array.getElem_toList, h5, i64C, List.getElem_map]
            rw [List.getD_eq_getElem?_getD, List.getElem?_eq_getElem (by omega)]
            rfl
        | _ => simp [World.cell?, hb] at h0
    · have := int_bd (hwf x (List.mem_of_mem_take hx))
      exact this
end Go.Proofs.YtadnpidadcgdcaaDoor
