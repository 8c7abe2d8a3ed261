/-
  PROVED: for every input AddressMasks answers true, and each argument reads afterwards as it read before (the card: the listed variables are tied to the program's text).
-/
import Derived.Test.YtadnpidadcgdcaaDoorSeat
import Derived.Test.YtadnpidadcgdcaaDoorM1
namespace Go.Proofs.YtadnpidadcgdcaaDoor
open Go.ChangeShapes Go.WideShapes Go.ChangeAt Go.RowKit

theorem ip_wf : ∀ (xs : List Value) (n : Nat), wfK (List.replicate n (.i .u8)) xs = true → ∃ a : List Int, xs = ipC a ∧ a.length = n ∧ ∀ x ∈ a, 0 ≤ x ∧ x < 256
  | [], 0, _ => ⟨[], rfl, rfl, by simp⟩
  | [], n + 1, h => by simp [List.replicate_succ, wfK] at h
  | _ :: _, 0, h => by simp [wfK] at h
  | x :: xs, n + 1, h => by
    simp only [List.replicate_succ, wfK, Bool.and_eq_true] at h
    obtain ⟨a, rfl, hl, hb⟩ := ip_wf xs n h.2
    have h1 := h.1
    cases x <;> simp [wfV] at h1
    rename_i k m
    obtain ⟨rfl, hw⟩ := h1
    have := wf_bd hw
    refine ⟨m :: a, rfl, by simp [hl], fun y hy => ?_⟩
    rcases List.mem_cons.1 hy with rfl | hy
    · simp [IntKind.min, IntKind.max, IntKind.signed, IntKind.bits] at this
      omega
    · exact hb y hy
set_option maxRecDepth 100000 in
theorem open_ip {H : Type} {enc : TypeId × Value → H} {w : World} {r : Reach} {b0 base : Nat} {sp : Nat → Bool} {held : Bool} {v : Value} {d : DataW H} {p : List MemPlace} (hval : Value.okWide Tryd.prog w r b0 23 v) (h : DataW.Trod enc Tryd.prog w base sp held 23 v d p) : ∃ a, IsIP a ∧ v = .agg (ipC a).toArray := by
  obtain ⟨xs, rfl, hw⟩ := open_lf (ks := List.replicate 16 (.i .u8)) (by kernel_rfl) hval h
  obtain ⟨a, rfl, hl, hb⟩ := ip_wf xs 16 hw
  exact ⟨a, ⟨hl, hb⟩, rfl⟩

set_option maxRecDepth 100000 in
theorem masks_contract (H : Type) (enc : TypeId × Value → H) (W : World) (base : Nat) (args : Array Value) (ds gs : List (DataW H)) (before : List MemPlace)
    (hval : ∀ (j : Nat) t v, Tryd.f4.params[j]? = some t → args[j]? = some v → Value.okWide Tryd.prog W .any base t v)
    (hW : DataW.Whole enc Tryd.prog Tryd.f4.params.toList Rows.addressMasksSpec.vars false W args.toList ds gs before) (hL : laidMetH Tryd.prog seatLaid W) (hS : W.ShapedOpen Tryd.prog) :
    Calls Tryd.prog 4 args W fun e W' => ∃ v, e = .returned v ∧ Rows.addressMasksSpec.post enc Tryd.prog Tryd.f4 false true false false W args v W' := by
  have hW' := hW
  obtain ⟨p, q, hA0, hV, rfl, hfz, hnd⟩ := hW
  have hA : DataW.TrodAll enc Tryd.prog W 0 (fun _ => true) true Tryd.f4.params.toList args.toList ds p := hA0
  rw [Tryd.params4] at hA hval
  obtain ⟨v0, vs0, d0, ds0, p0, q0, hargs, rfl, rfl, h0, r0⟩ := trodAll_cons hA
  obtain ⟨v1, vs1, d1, ds1, p1, q1, rfl, rfl, rfl, h1, r1⟩ := trodAll_cons r0
  obtain ⟨v2, vs2, d2, ds2, p2, q2, rfl, rfl, rfl, h2, r2⟩ := trodAll_cons r1
  obtain ⟨v3, vs3, d3, ds3, p3, q3, rfl, rfl, rfl, h3, r3⟩ := trodAll_cons r2
  obtain ⟨rfl, rfl, rfl⟩ := trodAll_nil r3
  obtain rfl : args = #[v0, v1, v2, v3] := by cases args; simp_all
  obtain ⟨a, ha, rfl⟩ := open_ip (hval 0 _ v0 rfl rfl) h0
  obtain ⟨b, hb, rfl⟩ := open_ip (hval 1 _ v1 rfl rfl) h1
  obtain ⟨m, rfl, rfl, rfl, w2⟩ := open_int Tryd.underlying3 (hval 2 _ v2 rfl rfl) h2
  obtain ⟨n, rfl, rfl, rfl, w3⟩ := open_int Tryd.underlying3 (hval 3 _ v3 rfl rfl) h3
  refine ((masks_c a b ha hb m n W (seat_GM hS) (seat_GT hL)).calls).mono ?_
  rintro e W' ⟨v, rfl, rfl, hE⟩
  exact ⟨_, rfl, law_post (tb := 4) laidOut (by kernel_rfl) rfl (by kernel_rfl) Tryd.underlying4 (fun xs hx => by rw [Tryd.params4] at hx; match xs, hx with | [_, _, _, _], _ => rfl) hW' hE⟩

set_option maxRecDepth 100000 in
theorem masks_lifted (os : Os) (started : os.Started) (H : Type) (enc : TypeId × Value → H) (F : Stop.Interp) :
    ReturnsInHanded {} Tryd.checked os 4 .any ((OpenSpec.ofChange Rows.addressMasksSpec).preRow enc Tryd.prog Tryd.f4 Rows.addressMasksRow.domain false Rows.addressMasksRow.laid) (((OpenSpec.ofChange Rows.addressMasksSpec).at F).post enc Tryd.prog Tryd.f4 false true false false) := by
  have hx : ∃ places ds, DataW.whole enc Tryd.prog ((laidWorld os).forCall (fun _ _ => 0) ⟨#[], #[.agg (ipC (List.replicate 16 0)).toArray, .agg (ipC (List.replicate 16 0)).toArray, .int .i64 0, .int .i64 0], []⟩).memory Tryd.f4.params.toList Rows.addressMasksSpec.vars false #[Value.agg (ipC (List.replicate 16 0)).toArray, .agg (ipC (List.replicate 16 0)).toArray, .int .i64 0, .int .i64 0].toList 8 = some (ds, [], places) := ⟨[], [.agg (List.replicate 16 (.lit (.int .u8 0))), .agg (List.replicate 16 (.lit (.int .u8 0))), .lit (.int .i64 0), .lit (.int .i64 0)], by kernel_rfl⟩
  obtain ⟨places, ds, hx⟩ := hx
  refine returnsInHanded_of_row (C := Tryd.checked) (s := OpenSpec.ofChange Rows.addressMasksSpec) own started (by kernel_rfl) Tryd.func4
    (witness_row_at (enc := enc) (C := Tryd.checked) false (laidWorld os) #[.agg (ipC (List.replicate 16 0)).toArray, .agg (ipC (List.replicate 16 0)).toArray, .int .i64 0, .int .i64 0] rfl (by kernel_rfl) (by kernel_rfl) (by kernel_rfl)
      (OpenSpec.preRow_of_cond 8 hx (by kernel_rfl) (fun k hk => by cases hk) (by kernel_rfl) (laid_met os _))) ?_
  intro W base args ds gs before hval hW _ _ _ hL hS _
  exact masks_contract H enc W base args ds gs before hval hW hL hS

theorem masks_said : Rows.AddressMasksSaid :=
  OpenClaim.holds_of_cond 4 Tryd.f4 rfl rfl rfl rfl rfl rfl rfl ⟨rfl, rfl, rfl, rfl, rfl⟩ rfl rfl rfl rfl rfl (by kernel_rfl) Tryd.func4 (by kernel_rfl)
    (of_decide_eq_true (by kernel_rfl)) (by unfold Func.isWrapper; first | (rw [if_pos (by decide +kernel)]; kernel_rfl) | (rw [if_neg (by decide +kernel)]; exact ⟨rfl, rfl⟩))
    (fun os started H enc _ F => by rw [OpenClaim.pre_eq_preRow]; exact masks_lifted os started H enc F)

theorem masks_plain (f : FuncId) (fn : Func) (hf : Tryd.pinned.checked.prog.funcNamed "multihop/multihoplaw04.AddressMasks" = some f) (hfn : Tryd.pinned.checked.prog.funcs[f]? = some fn) :
    false = Tryd.pinned.checked.prog.looks [] ∧ ∀ (j : Nat) t, fn.params[j]? = some t → Tryd.pinned.checked.prog.wantsStandIn t = false := by
  obtain rfl : f = 4 := Option.some.inj ((show Tryd.prog.funcNamed "multihop/multihoplaw04.AddressMasks" = some 4 by kernel_rfl).symm.trans hf) |>.symm
  obtain rfl : fn = Tryd.f4 := (Option.some.inj (Tryd.func4.symm.trans hfn)).symm
  refine ⟨by kernel_rfl, fun j t ht => ?_⟩
  have hall : (Tryd.f4.params.all fun u => !Tryd.prog.wantsStandIn u) = true := by kernel_rfl
  have hm := Array.all_eq_true_iff_forall_mem.1 hall t (Array.mem_of_getElem? ht)
  exact (show Tryd.prog.wantsStandIn t = false by simpa using hm)

/-- THE CARD -/
theorem masks_card : Rows.AddressMasksCardSaid :=
  Claim7.holds_tied_plain_at .later [] _ _ _ _ masks_said (fun _ h => by cases h) (by kernel_rfl) (fun _ h => by cases h) addressMasks_row_tie rfl ⟨rfl, rfl⟩ (by kernel_rfl) rfl masks_plain (by kernel_rfl)
#print axioms masks_card
end Go.Proofs.YtadnpidadcgdcaaDoor
