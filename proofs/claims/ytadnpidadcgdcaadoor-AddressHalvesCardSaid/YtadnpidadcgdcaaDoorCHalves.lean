/-
  PROVED: for every input AddressHalves answers true, and each argument reads afterwards as it read before (the card: the listed variables are tied to the program's text).
-/
import Derived.Test.YtadnpidadcgdcaaDoorOpen2
import Derived.Test.YtadnpidadcgdcaaDoorH1
namespace Go.Proofs.YtadnpidadcgdcaaDoor
set_option linter.unusedVariables false
set_option linter.unusedSimpArgs false
open Go.ChangeShapes Go.WideShapes Go.ChangeAt Go.RowKit

set_option maxRecDepth 100000 in
theorem addressHalves_contract (H : Type) (enc : TypeId × Value → H) (W : World) (base : Nat) (args : Array Value) (ds gs : List (DataW H)) (before : List MemPlace)
    (hval : ∀ (j : Nat) t v, Tryd.f6.params[j]? = some t → args[j]? = some v → Value.okWide Tryd.prog W .any base t v)
    (hW : DataW.Whole enc Tryd.prog Tryd.f6.params.toList Rows.addressHalvesSpec.vars false W args.toList ds gs before) (hL : laidMetH Tryd.prog seatLaid W) (hS : W.ShapedOpen Tryd.prog) :
    Calls Tryd.prog 6 args W fun e W' => ∃ v, e = .returned v ∧ Rows.addressHalvesSpec.post enc Tryd.prog Tryd.f6 false true false false W args v W' := by
  have hW' := hW
  obtain ⟨p, q, hA0, hV, rfl, hfz, hnd⟩ := hW
  have hA : DataW.TrodAll enc Tryd.prog W 0 (fun _ => true) true Tryd.f6.params.toList args.toList ds p := hA0
  rw [Tryd.params6] at hA hval
  obtain ⟨v0, vs0, d0, ds0, p0, q0, hargs, rfl, rfl, h0, r0⟩ := trodAll_cons hA
  obtain ⟨v1, vs1, d1, ds1, p1, q1, rfl, rfl, rfl, h1, r1⟩ := trodAll_cons r0
  obtain ⟨v2, vs2, d2, ds2, p2, q2, rfl, rfl, rfl, h2, r2⟩ := trodAll_cons r1
  obtain ⟨v3, vs3, d3, ds3, p3, q3, rfl, rfl, rfl, h3, r3⟩ := trodAll_cons r2
  obtain ⟨v4, vs4, d4, ds4, p4, q4, rfl, rfl, rfl, h4, r4⟩ := trodAll_cons r3
  obtain ⟨rfl, rfl, rfl⟩ := trodAll_nil r4
  obtain rfl : args = #[v0, v1, v2, v3, v4] := by cases args; simp_all
  obtain ⟨x0, hx0, rfl⟩ := open_ip (hval 0 _ v0 rfl rfl) h0
  obtain ⟨x1, hx1, rfl⟩ := open_ip (hval 1 _ v1 rfl rfl) h1
  obtain ⟨x2, n2, hx2, hn2, rfl⟩ := open_pf (hval 2 _ v2 rfl rfl) h2
  obtain ⟨l3, q3p, cap3, rfl, hc3, hx3⟩ := open_il (hval 3 _ v3 rfl rfl) h3
  obtain ⟨x4, rfl, rfl, rfl, w4⟩ := open_int Tryd.underlying44 (hval 4 _ v4 rfl rfl) h4; have hx4 := int_bd w4
  refine ((halves_c x0 x1 hx0 hx1 x2 n2 hx2 q3p cap3 l3 x4 hx4.1 hx4.2 W hx3 hc3 (seat_GM hS) (seat_GT hL)).calls).mono ?_
  rintro e W' ⟨v, rfl, rfl, hE⟩
  exact ⟨_, rfl, law_post (tb := 4) laidOut (by kernel_rfl) rfl (by kernel_rfl) Tryd.underlying4 (fun xs hx => by rw [Tryd.params6] at hx; match xs, hx with | [_, _, _, _, _], _ => rfl) hW' hE⟩

set_option maxRecDepth 100000 in
theorem addressHalves_lifted (os : Os) (started : os.Started) (H : Type) (enc : TypeId × Value → H) (F : Stop.Interp) :
    ReturnsInHanded {} Tryd.checked os 6 .any ((OpenSpec.ofChange Rows.addressHalvesSpec).preRow enc Tryd.prog Tryd.f6 Rows.addressHalvesRow.domain false Rows.addressHalvesRow.laid) (((OpenSpec.ofChange Rows.addressHalvesSpec).at F).post enc Tryd.prog Tryd.f6 false true false false) := by
  have hx : ∃ places ds, DataW.whole enc Tryd.prog ((laidWorld os).forCall (fun _ _ => 0) ⟨#[], #[.agg (ipC (List.replicate 16 0)).toArray, .agg (ipC (List.replicate 16 0)).toArray, .agg (pfC (List.replicate 16 0) 0).toArray, .slice none 0 0, .int .u64 0], []⟩).memory Tryd.f6.params.toList Rows.addressHalvesSpec.vars false #[Value.agg (ipC (List.replicate 16 0)).toArray, .agg (ipC (List.replicate 16 0)).toArray, .agg (pfC (List.replicate 16 0) 0).toArray, .slice none 0 0, .int .u64 0].toList 8 = some (ds, [], places) ∧ ds = [.agg (List.replicate 16 (.lit (.int .u8 0))), .agg (List.replicate 16 (.lit (.int .u8 0))), .agg [.agg (List.replicate 16 (.lit (.int .u8 0))), .lit (.int .i64 0)], .nil, .lit (.int .u64 0)] := ⟨[], [.agg (List.replicate 16 (.lit (.int .u8 0))), .agg (List.replicate 16 (.lit (.int .u8 0))), .agg [.agg (List.replicate 16 (.lit (.int .u8 0))), .lit (.int .i64 0)], .nil, .lit (.int .u64 0)], by kernel_rfl, rfl⟩
  obtain ⟨places, ds, hx, rfl⟩ := hx
  refine returnsInHanded_of_row (C := Tryd.checked) (s := OpenSpec.ofChange Rows.addressHalvesSpec) own started (by kernel_rfl) Tryd.func6
    (witness_row_at (enc := enc) (C := Tryd.checked) false (laidWorld os) #[.agg (ipC (List.replicate 16 0)).toArray, .agg (ipC (List.replicate 16 0)).toArray, .agg (pfC (List.replicate 16 0) 0).toArray, .slice none 0 0, .int .u64 0] rfl (by kernel_rfl) (by kernel_rfl) (by kernel_rfl)
      (OpenSpec.preRow_of_cond 8 hx (by kernel_rfl) (fun k hk => by cases hk) (by kernel_rfl) (laid_met os _))) ?_
  intro W base args ds gs before hval hW _ hcond _ hL hS _
  exact addressHalves_contract H enc W base args ds gs before hval hW hL hS

theorem addressHalves_said : Rows.AddressHalvesSaid :=
  OpenClaim.holds_of_cond 6 Tryd.f6 rfl rfl rfl rfl rfl rfl rfl ⟨rfl, rfl, rfl, rfl, rfl⟩ rfl rfl rfl rfl rfl (by kernel_rfl) Tryd.func6 (by kernel_rfl)
    (of_decide_eq_true (by kernel_rfl)) (by unfold Func.isWrapper; first | (rw [if_pos (by decide +kernel)]; kernel_rfl) | (rw [if_neg (by decide +kernel)]; exact ⟨rfl, rfl⟩))
    (fun os started H enc _ F => by rw [OpenClaim.pre_eq_preRow]; exact addressHalves_lifted os started H enc F)

theorem addressHalves_plain (f : FuncId) (fn : Func) (hf : Tryd.pinned.checked.prog.funcNamed "multihop/multihoplaw04.AddressHalves" = some f) (hfn : Tryd.pinned.checked.prog.funcs[f]? = some fn) :
    false = Tryd.pinned.checked.prog.looks [] ∧ ∀ (j : Nat) t, fn.params[j]? = some t → Tryd.pinned.checked.prog.wantsStandIn t = false := by
  obtain rfl : f = 6 := Option.some.inj ((show Tryd.prog.funcNamed "multihop/multihoplaw04.AddressHalves" = some 6 by kernel_rfl).symm.trans hf) |>.symm
  obtain rfl : fn = Tryd.f6 := (Option.some.inj (Tryd.func6.symm.trans hfn)).symm
  refine ⟨by kernel_rfl, fun j t ht => ?_⟩
  have hall : (Tryd.f6.params.all fun u => !Tryd.prog.wantsStandIn u) = true := by kernel_rfl
  have hm := Array.all_eq_true_iff_forall_mem.1 hall t (Array.mem_of_getElem? ht)
  exact (show Tryd.prog.wantsStandIn t = false by simpa using hm)

/-- THE CARD -/
theorem addressHalves_card : Rows.AddressHalvesCardSaid :=
  Claim7.holds_tied_plain_at .later [] _ _ _ _ addressHalves_said (fun _ h => by cases h) (by kernel_rfl) (fun _ h => by cases h) addressHalves_row_tie rfl ⟨rfl, rfl⟩ (by kernel_rfl) rfl addressHalves_plain (by kernel_rfl)
#print axioms addressHalves_card
end Go.Proofs.YtadnpidadcgdcaaDoor
