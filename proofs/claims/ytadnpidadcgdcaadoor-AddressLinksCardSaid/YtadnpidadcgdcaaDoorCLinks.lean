/-
  PROVED: for every input AddressLinks answers true, and each argument reads afterwards as it read before (the card: the listed variables are tied to the program's text).
-/
import Derived.Test.YtadnpidadcgdcaaDoorOpen2
import Derived.Test.YtadnpidadcgdcaaDoorL1
namespace Go.Proofs.YtadnpidadcgdcaaDoor
set_option linter.unusedVariables false
set_option linter.unusedSimpArgs false
open Go.ChangeShapes Go.WideShapes Go.ChangeAt Go.RowKit

set_option maxRecDepth 100000 in
theorem addressLinks_contract (H : Type) (enc : TypeId × Value → H) (W : World) (base : Nat) (args : Array Value) (ds gs : List (DataW H)) (before : List MemPlace)
    (hval : ∀ (j : Nat) t v, Tryd.f10.params[j]? = some t → args[j]? = some v → Value.okWide Tryd.prog W .any base t v)
    (hW : DataW.Whole enc Tryd.prog Tryd.f10.params.toList Rows.addressLinksSpec.vars false W args.toList ds gs before) (hL : laidMetH Tryd.prog seatLaid W) (hS : W.ShapedOpen Tryd.prog) :
    Calls Tryd.prog 10 args W fun e W' => ∃ v, e = .returned v ∧ Rows.addressLinksSpec.post enc Tryd.prog Tryd.f10 false true false false W args v W' := by
  have hW' := hW
  obtain ⟨p, q, hA0, hV, rfl, hfz, hnd⟩ := hW
  have hA : DataW.TrodAll enc Tryd.prog W 0 (fun _ => true) true Tryd.f10.params.toList args.toList ds p := hA0
  rw [Tryd.params10] at hA hval
  obtain ⟨v0, vs0, d0, ds0, p0, q0, hargs, rfl, rfl, h0, r0⟩ := trodAll_cons hA
  obtain ⟨v1, vs1, d1, ds1, p1, q1, rfl, rfl, rfl, h1, r1⟩ := trodAll_cons r0
  obtain ⟨v2, vs2, d2, ds2, p2, q2, rfl, rfl, rfl, h2, r2⟩ := trodAll_cons r1
  obtain ⟨rfl, rfl, rfl⟩ := trodAll_nil r2
  obtain rfl : args = #[v0, v1, v2] := by cases args; simp_all
  obtain ⟨m0, s0, e0, hx0, rfl⟩ := open_ad (hval 0 _ v0 rfl rfl) h0
  obtain ⟨m1, s1, e1, hx1, rfl⟩ := open_ad (hval 1 _ v1 rfl rfl) h1
  obtain ⟨l2, q2p, cap2, rfl, hc2, hx2⟩ := open_il (hval 2 _ v2 rfl rfl) h2
  refine ((links_c (m0, s0, e0) (m1, s1, e1) hx0 hx1 q2p cap2 l2 W hx2 hc2 (seat_GM hS) (seat_GT hL)).calls).mono ?_
  rintro e W' ⟨v, rfl, rfl, hE⟩
  exact ⟨_, rfl, law_post (tb := 4) laidOut (by kernel_rfl) rfl (by kernel_rfl) Tryd.underlying4 (fun xs hx => by rw [Tryd.params10] at hx; match xs, hx with | [_, _, _], _ => rfl) hW' hE⟩

set_option maxRecDepth 100000 in
theorem addressLinks_lifted (os : Os) (started : os.Started) (H : Type) (enc : TypeId × Value → H) (F : Stop.Interp) :
    ReturnsInHanded {} Tryd.checked os 10 .any ((OpenSpec.ofChange Rows.addressLinksSpec).preRow enc Tryd.prog Tryd.f10 Rows.addressLinksRow.domain false Rows.addressLinksRow.laid) (((OpenSpec.ofChange Rows.addressLinksSpec).at F).post enc Tryd.prog Tryd.f10 false true false false) := by
  have hx : ∃ places ds, DataW.whole enc Tryd.prog ((laidWorld os).forCall (fun _ _ => 0) ⟨#[], #[.agg (adC 0 0 0).toArray, .agg (adC 0 0 0).toArray, .slice none 0 0], []⟩).memory Tryd.f10.params.toList Rows.addressLinksSpec.vars false #[Value.agg (adC 0 0 0).toArray, .agg (adC 0 0 0).toArray, .slice none 0 0].toList 8 = some (ds, [], places) ∧ ds = [.agg [.lit (.int .i64 0), .lit (.int .u16 0), .lit (.int .u64 0)], .agg [.lit (.int .i64 0), .lit (.int .u16 0), .lit (.int .u64 0)], .nil] := ⟨[], [.agg [.lit (.int .i64 0), .lit (.int .u16 0), .lit (.int .u64 0)], .agg [.lit (.int .i64 0), .lit (.int .u16 0), .lit (.int .u64 0)], .nil], by kernel_rfl, rfl⟩
  obtain ⟨places, ds, hx, rfl⟩ := hx
  refine returnsInHanded_of_row (C := Tryd.checked) (s := OpenSpec.ofChange Rows.addressLinksSpec) own started (by kernel_rfl) Tryd.func10
    (witness_row_at (enc := enc) (C := Tryd.checked) false (laidWorld os) #[.agg (adC 0 0 0).toArray, .agg (adC 0 0 0).toArray, .slice none 0 0] rfl (by kernel_rfl) (by kernel_rfl) (by kernel_rfl)
      (OpenSpec.preRow_of_cond 8 hx (by kernel_rfl) (fun k hk => by cases hk) (by kernel_rfl) (laid_met os _))) ?_
  intro W base args ds gs before hval hW _ hcond _ hL hS _
  exact addressLinks_contract H enc W base args ds gs before hval hW hL hS

theorem addressLinks_said : Rows.AddressLinksSaid :=
  OpenClaim.holds_of_cond 10 Tryd.f10 rfl rfl rfl rfl rfl rfl rfl ⟨rfl, rfl, rfl, rfl, rfl⟩ rfl rfl rfl rfl rfl (by kernel_rfl) Tryd.func10 (by kernel_rfl)
    (of_decide_eq_true (by kernel_rfl)) (by unfold Func.isWrapper; first | (rw [if_pos (by decide +kernel)]; kernel_rfl) | (rw [if_neg (by decide +kernel)]; exact ⟨rfl, rfl⟩))
    (fun os started H enc _ F => by rw [OpenClaim.pre_eq_preRow]; exact addressLinks_lifted os started H enc F)

theorem addressLinks_plain (f : FuncId) (fn : Func) (hf : Tryd.pinned.checked.prog.funcNamed "multihop/multihoplaw04.AddressLinks" = some f) (hfn : Tryd.pinned.checked.prog.funcs[f]? = some fn) :
    false = Tryd.pinned.checked.prog.looks [] ∧ ∀ (j : Nat) t, fn.params[j]? = some t → Tryd.pinned.checked.prog.wantsStandIn t = false := by
  obtain rfl : f = 10 := Option.some.inj ((show Tryd.prog.funcNamed "multihop/multihoplaw04.AddressLinks" = some 10 by kernel_rfl).symm.trans hf) |>.symm
  obtain rfl : fn = Tryd.f10 := (Option.some.inj (Tryd.func10.symm.trans hfn)).symm
  refine ⟨by kernel_rfl, fun j t ht => ?_⟩
  have hall : (Tryd.f10.params.all fun u => !Tryd.prog.wantsStandIn u) = true := by kernel_rfl
  have hm := Array.all_eq_true_iff_forall_mem.1 hall t (Array.mem_of_getElem? ht)
  exact (show Tryd.prog.wantsStandIn t = false by simpa using hm)

/-- THE CARD -/
theorem addressLinks_card : Rows.AddressLinksCardSaid :=
  Claim7.holds_tied_plain_at .later [] _ _ _ _ addressLinks_said (fun _ h => by cases h) (by kernel_rfl) (fun _ h => by cases h) addressLinks_row_tie rfl ⟨rfl, rfl⟩ (by kernel_rfl) rfl addressLinks_plain (by kernel_rfl)
#print axioms addressLinks_card
end Go.Proofs.YtadnpidadcgdcaaDoor
