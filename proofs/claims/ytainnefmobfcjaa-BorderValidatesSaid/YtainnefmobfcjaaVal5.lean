/-
  Texts joined: F9, K0, LibU, K1, FB, FD, FE, FF, FG, FH.
-/
import Derived.Test.YtainnefmobfcjaaVal4
import Derived.Shelf.SlSortCmp.WholeK
import Derived.Shelf.SlSortCmp.NoneTotal
import Derived.Test.YtainnefmobfcjaaProg
/-! F9 -/
namespace Go.Proofs.Ytainnefmobfcjaa
set_option linter.unusedVariables false
set_option linter.unusedSimpArgs false
open Go.RowKit
attribute [local irreducible] OpTo wpListIn Code.wpIn MW Cal
theorem sortOk1 : SortOk (fun ls => ls.length = 1) (fun ls ls' => ls' = ls) := by
  intro S W0 w l f v ls ent M hO hl hI h1
  rcases hO with ⟨_, h0, _, _⟩ | ⟨b, cap, junk, rfl, rfl, hxl, hjl, hnc⟩
  · omega
  have hO2 : OwnS 26 16 (.slice (some ⟨b, 0, none⟩) ls.length cap) ls.length (ipsC ls) [(b, .cells (ipsC ls ++ junk).toArray 26 (0, 0))] := .inr ⟨b, cap, junk, rfl, rfl, hxl, hjl, hnc⟩
  obtain ⟨lr, rfl, hf⟩ := hl.spec
  rw [h1] at hO2 ⊢
  exact Cal.mono (sort1_c b cap _ w) fun _ _ h => ⟨ls, _, rfl, by rw [h1]; exact hO2, by rw [hf]; exact M.later h.2⟩
theorem compOk1 : CompOk (fun ls => ls.length = 1) (fun ls ls' => ls' = ls) := by
  intro S W0 w l f v ls ent M hO hl h1
  rcases hO with ⟨_, h0, _, _⟩ | ⟨b, cap, junk, rfl, rfl, hxl, hjl, hnc⟩
  · omega
  have hO2 : OwnS 26 16 (.slice (some ⟨b, 0, none⟩) ls.length cap) ls.length (ipsC ls) [(b, .cells (ipsC ls ++ junk).toArray 26 (0, 0))] := .inr ⟨b, cap, junk, rfl, rfl, hxl, hjl, hnc⟩
  obtain ⟨lr, rfl, hf⟩ := hl.spec
  rw [h1] at hO2 ⊢
  refine Cal.mono (compact1_c b cap w) ?_
  rintro _ w' ⟨rfl, hE⟩
  exact ⟨ls, _, rfl, by rw [h1]; exact hO2, by rw [hf]; exact M.later hE⟩
def offG : Off := ⟨⟨[1, 0, 0, 0, 0, 0, 0, 0, 0, 0, 0, 0, 0, 0, 0, 0], 2, 9⟩, [⟨[32, 1, 0, 0, 0, 0, 0, 0, 0, 0, 0, 0, 0, 0, 0, 0], 64, false, true, 1⟩], []⟩
theorem isIP_dec (l : List Int) (h : (decide (l.length = 16) && l.all fun x => decide (0 ≤ x) && decide (x < 256)) = true) : IsIP l := by
  simp only [Bool.and_eq_true, decide_eq_true_eq, List.all_eq_true] at h
  exact ⟨h.1, h.2⟩
theorem offG_is : IsOff offG := ⟨isIP_dec _ (by decide), by simp [offG]; exact isIP_dec _ (by decide), by simp [offG]⟩
theorem offG_acc : acceptV [] 5 offG = ([offG], 0) := by decide +kernel
theorem offG_valid : validL [offG] = true := by decide +kernel
theorem offG_raw : rawL 144115188075855873 (curO [offG] 5) = [[32, 1, 0, 0, 0, 0, 0, 0, 2, 0, 0, 0, 0, 0, 0, 1]] := by decide +kernel
theorem offG_iid : iidA 3 0 1 = some 144115188075855873 := by decide +kernel
set_option maxHeartbeats 4000000 in
theorem offered_c (W : World) : Cal Try.prog 22 [].toArray W fun r w' => r = .bool true ∧ Ext [] W w' := by
  refine fn_ofM (n := 37) [] Try.func22 rfl rfl rfl ?_
  intro a w F M hwW
  with_reducible refine c_seq ?_
  with_reducible refine c_region ?_
  refine stepD rfl F rfl (o_assign (F.ev rfl) ?_); clear F; clear a; intro a F
  with_reducible refine l_nil ?_
  with_reducible refine q_then ?_
  with_reducible refine c_seq ?_
  with_reducible refine c_region ?_
  refine stepD rfl F rfl (o_build F rfl rfl ?_); clear F; clear a; intro a F
  refine stepD rfl F rfl (o_build F rfl rfl ?_); clear F; clear a; intro a F
  refine stepD rfl F rfl (o_build F rfl rfl ?_); clear F; clear a; intro a F
  refine stepD rfl F rfl (o_build F rfl rfl ?_); clear F; clear a; intro a F
  (refine stepD rfl F rfl (o_buildSlice F M rfl rfl rfl rfl ?_); clear F; clear M; intro b9 w M a F)
  refine stepD rfl F rfl (o_build F rfl rfl ?_); clear F; clear a; intro a F
  (refine stepD rfl F rfl (o_alloc M ?_); clear F; clear M; intro b1 w M a F)
  (refine stepN rfl F (o_storeA M (F.ev rfl) (F.ev rfl) (by rfl) (by rfl) (by repeat (first | exact .here | apply Has.there)) (by rfl) (by repeat (first | exact .here | apply Upd.there)) ?_); clear F; clear M; intro w M a F)
  with_reducible refine l_nil ?_
  with_reducible refine q_then ?_
  with_reducible refine c_seq ?_
  with_reducible refine c_region ?_
  refine stepD rfl F rfl (o_loadA M (F.ev rfl) (by repeat (first | exact .here | apply Has.there)) (by first | assumption | rfl) ?_); clear F; clear a; intro a F
  have hA : OffAt w ⟨offG, .slice (some ⟨b9, 0, none⟩) 1 1, .slice none 0 0⟩ :=
    ⟨⟨_, _, rfl, by simp [offG], by simp, by simp [offG, encL, piC, pfC, ipC], fun _ => ⟨b9, 0, _, _, _, rfl, M.heap (.there .here), rfl⟩⟩, SlAt.nil _ _⟩
  (refine stepD rfl F rfl (o_call (F.ev rfl) (F.evs (vs := [.slice none 0 0, .int .i64 5, .agg (ovC ⟨offG, .slice (some ⟨b9, 0, none⟩) 1 1, .slice none 0 0⟩).toArray]) rfl) (Cal.mono (accept_c [] (by simp) _ 5 ⟨offG, .slice (some ⟨b9, 0, none⟩) 1 1, .slice none 0 0⟩ offG_is _ (SlAt.nil _ _) (by simp) hA) ?_)); clear F; clear a; rintro _ w ⟨s, rfl, hof, hE⟩ a F; replace M := M.later hE; replace hof := hof.at; clear hE)
  rw [show (([] : List OV).map (·.o)) = [] from rfl, offG_acc] at F hof
  dsimp only at F hof
  obtain ⟨zs, hz, hS, hZ⟩ := hof
  have hzo : ∀ z ∈ zs, IsOff z.o := fun z hzm => by
    have : z.o ∈ [offG] := by rw [← hz]; exact List.mem_map_of_mem hzm
    simp only [List.mem_singleton] at this
    rw [this]; exact offG_is
  have hzl : zs.length = 1 := by simpa using congrArg List.length hz
  refine stepD rfl F rfl (o_move (F.ev rfl) ?_); clear F; clear a; intro a F
  refine stepD rfl F rfl (o_extract (F.ev rfl) rfl ?_); clear F; clear a; intro a F
  refine stepD rfl F rfl (o_extract (F.ev rfl) rfl ?_); clear F; clear a; intro a F
  refine stepD rfl F rfl (o_assign (F.ev rfl) ?_); clear F; clear a; intro a F
  refine stepD rfl F rfl (o_assign (F.ev rfl) ?_); clear F; clear a; intro a F
  with_reducible refine l_nil ?_
  with_reducible refine q_then ?_
  with_reducible refine c_seq ?_
  with_reducible refine c_region ?_
  refine stepD rfl F rfl (o_move (F.ev rfl) ?_); clear F; clear a; intro a F
  (refine stepD rfl F rfl (o_call (F.ev rfl) (F.evs rfl) (Cal.mono (addresses_c zs hzo _ 5 1 (by omega) 144115188075855873 (by omega) offG_iid _ hS hZ (by rw [hz]; exact offG_valid) (by decide) (by omega) sortOk1 compOk1 (by rw [hz, offG_raw]; rfl) (by rintro _ rfl; rw [hz, offG_raw]; rfl)) ?_)); clear F; clear a; rintro _ w ⟨ls1, ls2, rfl, rfl, hR, hE⟩ a F)
  have hS2 := hS.later hE
  replace M := M.later hE
  clear hE hA hS hZ
  rw [hz, offG_raw] at hR
  obtain ⟨q2, c2, rfl, _⟩ := hS2
  obtain ⟨q3, c3, rfl, _, _, _, hm3⟩ := hR
  obtain ⟨b3, o3, cs3, t3, fz3, rfl, hb3, hs3⟩ := hm3 (by simp)
  rw [hzl] at F
  rw [show ([[32, 1, 0, 0, 0, 0, 0, 0, 2, 0, 0, 0, 0, 0, 0, 1]] : List (List Int)).length = 1 from rfl] at F
  have hs4 : seg cs3 (o3 + (0 : Int).toNat * 16) 16 = some (ipC [32, 1, 0, 0, 0, 0, 0, 0, 2, 0, 0, 0, 0, 0, 0, 1]) := by simpa [encL] using hs3
  refine stepD rfl F rfl (o_assign (F.ev rfl) ?_); clear F; clear a; intro a F
  with_reducible refine l_nil ?_
  with_reducible refine q_then ?_
  with_reducible refine c_seq ?_
  with_reducible refine c_region ?_
  refine stepD rfl F rfl (o_move (F.ev rfl) ?_); clear F; clear a; intro a F
  refine stepD rfl F rfl (o_eqlT (F.ev rfl) (F.ev rfl) (by omega) ?_); clear F; clear a; intro a F
  refine stepD rfl F rfl (o_move (F.ev rfl) ?_); clear F; clear a; intro a F
  refine stepG rfl F rfl rfl rfl (o_move (F.ev rfl) ?_); clear F; clear a; intro a F
  refine stepG rfl F rfl rfl rfl (o_lenSl (F.ev rfl) ?_); clear F; clear a; intro a F
  refine stepG rfl F rfl rfl rfl (o_eqlT (F.ev rfl) (F.ev rfl) (by omega) ?_); clear F; clear a; intro a F
  refine stepD rfl F rfl (o_pickT (F.ev rfl) (F.ev rfl) ?_); clear F; clear a; intro a F
  refine stepD rfl F rfl (o_move (F.ev rfl) ?_); clear F; clear a; intro a F
  refine stepG rfl F rfl rfl rfl (o_move (F.ev rfl) ?_); clear F; clear a; intro a F
  refine stepG rfl F rfl rfl rfl (o_lenSl (F.ev rfl) ?_); clear F; clear a; intro a F
  refine stepG rfl F rfl rfl rfl (o_eql (F.ev rfl) (F.ev rfl) ?_); clear F; clear a; intro a F
  refine stepD rfl F rfl (o_pickT (F.ev rfl) (F.ev rfl) ?_); clear F; clear a; intro a F
  refine stepD rfl F rfl (o_move (F.ev rfl) ?_); clear F; clear a; intro a F
  refine stepG rfl F rfl rfl rfl (o_move (F.ev rfl) ?_); clear F; clear a; intro a F
  refine stepG rfl F rfl rfl rfl (o_indexSl (F.ev rfl) (F.ev rfl) (by omega) (by omega) ?_); clear F; clear a; intro a F
  (refine stepG rfl F rfl rfl rfl (o_loadHA (F.ev rfl) hb3 hs4 ?_); clear F; clear a; intro a F)
  refine stepG rfl F rfl rfl rfl (o_build F rfl rfl ?_); clear F; clear a; intro a F
  refine stepG rfl F rfl rfl rfl (o_eqlA (F.ev rfl) (F.ev rfl) (by first | assumption | rfl) (by first | assumption | rfl) ?_); clear F; clear a; intro a F
  refine stepD rfl F rfl (o_pickT (F.ev rfl) (F.ev rfl) ?_); clear F; clear a; intro a F
  refine stepD rfl F rfl (o_assign (F.ev rfl) ?_); clear F; clear a; intro a F
  with_reducible refine l_nil ?_
  with_reducible refine q_then ?_
  with_reducible refine c_ret ?_
  refine p_ret F rfl (.cons (.tmp (F.ev rfl)) .nil) ?_
  exact ⟨rfl, M.ext⟩
end Go.Proofs.Ytainnefmobfcjaa
/-! K0 -/
namespace Go.Proofs.Ytainnefmobfcjaa
set_option linter.unusedVariables false
set_option linter.unusedSimpArgs false
open Go.Shelf
def sortIP_ren : Go.Shelf.Ren := ⟨fun | 6 => 89 | 15 => 107 | 14 => 106 | 28 => 122 | 29 => 123 | 20 => 114 | 21 => 115 | 22 => 116 | 23 => 117 | 24 => 118 | 25 => 119 | 26 => 120 | 27 => 121 | 46 => 125 | 47 => 126 | 48 => 127 | 49 => 128 | 50 => 129 | 57 => 130 | n => n, fun | 22 => 112 | 24 => 26 | 25 => 96 | 3 => 3 | 39 => 91 | 0 => 0 | 53 => 74 | 55 => 35 | 4 => 4 | 46 => 157 | 45 => 156 | 50 => 106 | 5 => 5 | 9 => 9 | 66 => 164 | 70 => 167 | 76 => 169 | 77 => 170 | n => n, fun | n => n⟩
theorem sortIP : Go.Proofs.SlLaysF0.n6 Try.prog sortIP_ren := {
  mixed := by kernel_rfl
  f6 := ⟨Try.f89.name, by decide, Try.func89.trans (congrArg some (by kernel_rfl))⟩
  f14 := ⟨Try.f106.name, by decide, Try.func106.trans (congrArg some (by kernel_rfl))⟩
  f15 := Try.func107.trans (congrArg some (by kernel_rfl))
  f20 := ⟨Try.f114.name, by decide, Try.func114.trans (congrArg some (by kernel_rfl))⟩
  f21 := ⟨Try.f115.name, by decide, Try.func115.trans (congrArg some (by kernel_rfl))⟩
  f22 := ⟨Try.f116.name, by decide, Try.func116.trans (congrArg some (by kernel_rfl))⟩
  f23 := ⟨Try.f117.name, by decide, Try.func117.trans (congrArg some (by kernel_rfl))⟩
  f24 := ⟨Try.f118.name, by decide, Try.func118.trans (congrArg some (by kernel_rfl))⟩
  f25 := ⟨Try.f119.name, by decide, Try.func119.trans (congrArg some (by kernel_rfl))⟩
  f26 := ⟨Try.f120.name, by decide, Try.func120.trans (congrArg some (by kernel_rfl))⟩
  f27 := ⟨Try.f121.name, by decide, Try.func121.trans (congrArg some (by kernel_rfl))⟩
  f28 := Try.func122.trans (congrArg some (by kernel_rfl))
  f29 := Try.func123.trans (congrArg some (by kernel_rfl))
  f46 := ⟨Try.f125.name, by decide, Try.func125.trans (congrArg some (by kernel_rfl))⟩
  f47 := Try.func126.trans (congrArg some (by kernel_rfl))
  f48 := Try.func127.trans (congrArg some (by kernel_rfl))
  f49 := ⟨Try.f128.name, by decide, Try.func128.trans (congrArg some (by kernel_rfl))⟩
  f50 := ⟨Try.f129.name, by decide, Try.func129.trans (congrArg some (by kernel_rfl))⟩
  f57 := ⟨Try.f130.name, by decide, Try.func130.trans (congrArg some (by kernel_rfl))⟩
  t0 := Try.underlying0
  a0 := Try.isAgg0
  z0 := Try.sizeOf0
  v0 := Try.zeroValue0
  t3 := Try.underlying3
  a3 := Try.isAgg3
  z3 := Try.sizeOf3
  v3 := Try.zeroValue3
  t4 := Try.underlying4
  a4 := Try.isAgg4
  z4 := Try.sizeOf4
  v4 := Try.zeroValue4
  t5 := Try.underlying5
  a5 := Try.isAgg5
  z5 := Try.sizeOf5
  v5 := Try.zeroValue5
  t9 := Try.underlying9
  a9 := Try.isAgg9
  z9 := Try.sizeOf9
  v9 := Try.zeroValue9
  t22 := Try.underlying112
  a22 := Try.isAgg112
  z22 := Try.sizeOf112
  v22 := Try.zeroValue112
  t25 := Try.underlying96
  a25 := Try.isAgg96
  z25 := Try.sizeOf96
  v25 := Try.zeroValue96
  t39 := Try.underlying91
  a39 := Try.isAgg91
  z39 := Try.sizeOf91
  v39 := Try.zeroValue91
  t45 := Try.underlying156
  a45 := Try.isAgg156
  z45 := Try.sizeOf156
  v45 := Try.zeroValue156
  t46 := Try.underlying157
  a46 := Try.isAgg157
  z46 := Try.sizeOf157
  v46 := Try.zeroValue157
  t50 := Try.underlying106
  a50 := Try.isAgg106
  z50 := Try.sizeOf106
  v50 := Try.zeroValue106
  t53 := Try.underlying74
  a53 := Try.isAgg74
  z53 := Try.sizeOf74
  v53 := Try.zeroValue74
  t55 := Try.underlying35
  a55 := Try.isAgg35
  z55 := Try.sizeOf35
  v55 := Try.zeroValue35
  t66 := Try.underlying164
  a66 := Try.isAgg164
  z66 := Try.sizeOf164
  v66 := Try.zeroValue164
  t70 := Try.underlying167
  a70 := Try.isAgg167
  z70 := Try.sizeOf167
  v70 := Try.zeroValue167
  t76 := Try.underlying169
  a76 := Try.isAgg169
  z76 := Try.sizeOf169
  v76 := Try.zeroValue169
  t77 := Try.underlying170
  a77 := Try.isAgg170
  z77 := Try.sizeOf170
  v77 := Try.zeroValue170 }
end Go.Proofs.Ytainnefmobfcjaa
/-! LibU -/
namespace Go.Proofs.Ytainnefmobfcjaa
set_option linter.unusedVariables false
set_option linter.unusedSimpArgs false
open Go.RowKit Go.Sort Go.Shelf
theorem ext_grow {w w' : World} (h : Ext [] w w') : ∃ q os', w' = grow (w.drewN q) os' := by
  refine ⟨w'.drawn - w.drawn, w'.heap.extract w.heap.size w'.heap.size, ?_⟩
  obtain ⟨hp, tp, dr, os, ou⟩ := w'
  obtain ⟨h1, h2, h3, h4, h5, h6⟩ := h
  simp only at h1 h2 h3 h4 h5 h6
  subst h1 h2 h3
  simp only [grow, World.drewN]
  congr 1
  · apply Array.ext'
    apply List.ext_getElem?
    intro i
    simp only [Array.getElem?_toList]
    rcases Nat.lt_or_ge i w.heap.size with h | h
    · rw [Array.getElem?_append_left h]
      exact h6 i h (by simp)
    · rw [Array.getElem?_append_right h, Array.getElem?_extract]
      split
      · rename_i h7
        congr 1
        omega
      · rename_i h7
        exact Array.getElem?_eq_none (by omega)
  · omega
theorem encL_get {α : Type} {enc : α → List Value} {k : Nat} (hk : ∀ x, (enc x).length = k) (h0 : 0 < k) : ∀ (ls : List α) (j : Nat), j < ls.length * k → (encL enc ls)[j]? = (ls[j / k]?).bind fun x => (enc x)[j % k]?
  | [], j, h => by simp at h
  | x :: xs, j, h => by
    rw [encL_cons]
    rcases Nat.lt_or_ge j k with hj | hj
    · rw [List.getElem?_append_left (by rw [hk]; exact hj), Nat.div_eq_of_lt hj, Nat.mod_eq_of_lt hj]
      rfl
    · have e1 : j / k = (j - k) / k + 1 := by
        rw [show j = (j - k) + k by omega, Nat.add_div_right _ h0]
        simp
      have e2 : j % k = (j - k) % k := by
        rw [show j = (j - k) + k by omega, Nat.add_mod_right]
        simp
      rw [List.getElem?_append_right (by rw [hk]; exact hj), hk, e1, e2, encL_get hk h0 xs (j - k) (by simp only [List.length_cons, Nat.add_mul] at h; omega)]
      simp
theorem flat_enc {α : Type} [Inhabited α] {enc : α → List Value} {k : Nat} (hk : ∀ x, (enc x).length = k) (h0 : 0 < k) (d : Array α) : (flatK enc k d).toList = encL enc d.toList := by
  have hl : (encL enc d.toList).length = d.size * k := by rw [encL_len (fun x _ => hk x)]; simp
  apply List.ext_getElem?
  intro j
  rcases Nat.lt_or_ge j (d.size * k) with h | h
  · have hd : j / k < d.size := Nat.div_lt_of_lt_mul (by rwa [Nat.mul_comm] at h)
    have hm : j % k < k := Nat.mod_lt _ h0
    rw [encL_get hk h0 _ _ (by simpa using h)]
    simp only [flatK, Array.toList_map, Array.toList_range]
    rw [List.getElem?_map, List.getElem?_range h]
    simp only [Option.map_some, Array.getElem?_toList]
    rw [Array.getElem?_eq_getElem hd]
    simp only [Option.bind_some]
    rw [getElem!_pos d (j / k) hd, getElem!_pos (enc d[j / k]) (j % k) (by rw [hk]; exact hm), List.getElem?_eq_getElem (by rw [hk]; exact hm)]
  · rw [List.getElem?_eq_none (by simpa using h), List.getElem?_eq_none (by omega)]
section
variable {α : Type} [Inhabited α] {P : Program} {ρ : Ren} {enc : α → List Value} {k : Nat}
theorem cmp_lays {g : Nat} {cf : α → α → Int} {blk off size : Nat} {w : World} (h : ∀ (W : World) (x y : α), Cal P g [.agg (enc x).toArray, .agg (enc y).toArray].toArray W fun v w' => v = .int .i64 (cf x y) ∧ Ext [] W w') : CmpLays P g #[] enc k cf blk off size w := by
  intro m os dk _ x y
  refine ((h (sortWorldK enc k w blk off m dk os) x y).calls).mono ?_
  rintro e w' ⟨v, rfl, rfl, hE⟩
  exact ⟨rfl, ext_grow hE⟩
/-- The sort over a slice of the call's own. -/
theorem sort_own (L : SlLaysF0.n6 P ρ) (hk : ∀ x, (enc x).length = k) (h0 : 0 < k) (h1 : ∀ x, (enc x).all (·.oneCell') = true) (haE : aggTy P (ρ.t 24) k = true) (cf : α → α → Int) (hO : SWO (ltOf cf)) (hT : ∀ x y, ltOf cf x y = false → ltOf cf y x = false → x = y) {g : Nat} (hg : hasBody P g = true)
    (hcmp : ∀ (W : World) (x y : α), Cal P g [.agg (enc x).toArray, .agg (enc y).toArray].toArray W fun v w' => v = .int .i64 (cf x y) ∧ Ext [] W w')
    {S : List Nat} {W0 w : World} {l : List (Nat × Obj)} {f : List (Nat × Obj) → List (Nat × Obj)} {e : TypeId} {v : Value} (ls : List α) {ent : List (Nat × Obj)} (M : Mem S W0 w l) (hOw : OwnS e k v ls.length (encL enc ls) ent) (hl : TailAt ent l f) (hsz : ls.length < 4611686018427387904) :
    Cal P (ρ.f 6) [v, .func (.func g) #[] #[]].toArray w fun _ w' => ∃ ent', OwnS e k v ls.length (encL enc (ls.mergeSort fun x y => !(ltOf cf) y x)) ent' ∧ Mem S W0 w' (f ent') := by
  obtain ⟨lr, rfl, hf⟩ := hl.spec
  rcases hOw with ⟨rfl, hn, _, rfl⟩ | ⟨b, cap, junk, rfl, rfl, hxl, hjl, hnc⟩
  · have hls : ls = [] := List.length_eq_zero_iff.1 hn
    subst hls
    refine Cal.of_calls (AnyF.slices_SortFunc_none L none 0 (.func (.func g) #[] #[]) w) ?_
    rintro e' w' ⟨rfl, rfl⟩
    exact ⟨_, rfl, [], by simpa [encL] using OwnS.nil e k, by rw [hf]; exact M⟩
  · have hb : w.heap[b]? = some (.cells (encL enc ls ++ junk).toArray e (0, 0)) := M.at_ (b, _) (by simp)
    have hlt : b < w.heap.size := (Array.getElem?_eq_some_iff.1 hb).1
    have hH : HoldsK enc k w b 0 ls.toArray := by
      intro j hj
      rw [size_flatK] at hj
      simp only [List.size_toArray] at hj
      have hfl := flat_enc hk h0 ls.toArray
      have hjf : j < (flatK enc k ls.toArray).size := by rw [size_flatK]; simpa using hj
      refine ⟨?_, by simp [World.frozen?, hb]⟩
      rw [getElem!_pos _ j hjf]
      simp only [World.cell?, hb, id]
      rw [if_neg (by simp), Nat.zero_add, List.getElem?_toArray, List.getElem?_append_left (by rw [hxl]; exact hj)]
      have h2 : (flatK enc k ls.toArray).toList[j]? = (encL enc ls)[j]? := by rw [hfl]
      rw [← h2, Array.getElem?_toList, Array.getElem?_eq_getElem hjf]
    have hagg : ∀ w, (isAgg (ρ.t 24)).run P w = .ok true w := fun w => run_isAgg_agg haE
    have hszo : ∀ w, (sizeOf (ρ.t 24)).run P w = .ok k w := fun w => run_sizeOf_agg haE
    have hcon := AnyQ.slices_SortFunc_total L k hagg hszo enc hk (fun x v hv => List.all_eq_true.1 (h1 x) v hv) cf hO g #[] b 0 cap ls.toArray w (fun args w => run_callFunc hg args w) (cmp_lays hcmp) hH hlt (by simpa using hsz) hT
    simp only [List.size_toArray] at hcon
    refine Cal.of_calls hcon ?_
    rintro e' w' ⟨rfl, n, os, rfl⟩
    refine ⟨_, rfl, [(b, .cells (encL enc (ls.mergeSort fun x y => !(ltOf cf) y x) ++ junk).toArray e (0, 0))], .inr ⟨b, cap, junk, rfl, rfl, by rw [encL_len (fun x _ => hk x)]; simp, hjl, hnc⟩, ?_⟩
    rw [hf]
    obtain ⟨ds, hds⟩ : ∃ ds, ds = ls.mergeSort fun x y => !(ltOf cf) y x := ⟨_, rfl⟩
    rw [← hds]
    have hdl : ds.length = ls.length := by rw [hds]; simp
    clear hcon hH
    have hcells : putCells id 0 (flatK enc k ds.toArray) (encL enc ls ++ junk).toArray = (encL enc ds ++ junk).toArray := by
      have hfl := flat_enc hk h0 ds.toArray
      have hfs : (flatK enc k ds.toArray).size = ls.length * k := by rw [size_flatK]; simp [hdl]
      have hel : (encL enc ds).length = ls.length * k := by rw [encL_len (fun x _ => hk x), hdl]
      apply Array.ext'
      apply List.ext_getElem?
      intro i
      simp only [putCells, Array.getElem?_toList, Array.getElem?_mapIdx, List.getElem?_toArray]
      rcases Nat.lt_or_ge i (ls.length * k) with hi | hi
      · rw [List.getElem?_append_left (by omega), List.getElem?_append_left (by omega), List.getElem?_eq_getElem (show i < (encL enc ls).length by omega)]
        simp only [Option.map_some]
        rw [if_pos ⟨Nat.zero_le _, by omega⟩, Nat.sub_zero, getElem!_pos _ i (by omega)]
        have h2 : (flatK enc k ds.toArray).toList[i]? = (encL enc ds)[i]? := by rw [hfl]
        rw [← h2, Array.getElem?_toList, Array.getElem?_eq_getElem (by omega)]
        rfl
      · rw [List.getElem?_append_right (by omega), List.getElem?_append_right (by omega), hxl, hel]
        cases hjv : junk[i - ls.length * k]? with
        | none => rfl
        | some z =>
          simp only [Option.map_some]
          rw [if_neg (by omega)]
    have hnew : (sortWorldK enc k w b 0 n ds.toArray os).heap[b]? = some (.cells (encL enc ds ++ junk).toArray e (0, 0)) := by
      have hs : b < (putRowK enc k (Go.Sort.ahead w n) b 0 ds.toArray).heap.size := by simpa [putRowK, Go.Sort.ahead] using hlt
      simp only [sortWorldK, grow]
      rw [Array.getElem?_append_left hs]
      simp only [putRowK, putRow, mapBlock, Go.Sort.ahead]
      rw [Array.getElem?_modify]
      simp only [if_true, hb, Option.map_some, onCells, hcells]
    have hext : Ext [b] w (sortWorldK enc k w b 0 n ds.toArray os) := by
      refine ⟨rfl, rfl, rfl, ?_, ?_, fun j hj hne => ?_⟩
      · simp [sortWorldK, grow, putRowK, putRow, mapBlock, Go.Sort.ahead]
      · simp [sortWorldK, grow, putRowK, putRow, mapBlock, Go.Sort.ahead]
      · have hs : j < (putRowK enc k (Go.Sort.ahead w n) b 0 ds.toArray).heap.size := by simpa [putRowK, Go.Sort.ahead] using hj
        simp only [sortWorldK, grow]
        rw [Array.getElem?_append_left hs]
        simp only [putRowK, putRow, mapBlock, Go.Sort.ahead]
        rw [Array.getElem?_modify, if_neg (by intro h; exact hne (by simp [h]))]
    exact M.turned ((Upd.here (l := [])).append lr) hext hnew
end
end Go.Proofs.Ytainnefmobfcjaa
/-! K1 -/
namespace Go.Proofs.Ytainnefmobfcjaa
set_option linter.unusedVariables false
set_option linter.unusedSimpArgs false
open Go.RowKit
attribute [local irreducible] OpTo wpListIn Code.wpIn MW Cal
/-- neighbours that are alike: one of them -/
def dedS {α : Type} [DecidableEq α] (acc : List α) (x : α) : List α := if acc.getLast? = some x then acc else acc ++ [x]
def dedA {α : Type} [DecidableEq α] (ls : List α) : List α := ls.foldl dedS []
section
variable {α : Type} [DecidableEq α]
theorem dedS_last (acc : List α) (x : α) : (dedS acc x).getLast? = some x := by
  unfold dedS
  split
  · assumption
  · simp
theorem dedA_take {ls : List α} {j : Nat} (hj : j < ls.length) : dedA (ls.take (j + 1)) = dedS (dedA (ls.take j)) ls[j] := by
  unfold dedA
  rw [List.take_add_one, List.getElem?_eq_getElem hj, List.foldl_append]
  rfl
theorem dedA_last {ls : List α} {j : Nat} (h0 : 0 < j) (hj : j ≤ ls.length) : (dedA (ls.take j)).getLast? = some ls[j - 1] := by
  obtain ⟨i, rfl⟩ : ∃ i, j = i + 1 := ⟨j - 1, by omega⟩
  rw [dedA_take (by omega), dedS_last]
  simp
theorem dedA_step {ls : List α} {j : Nat} (h0 : 0 < j) (hj : j < ls.length) : dedA (ls.take (j + 1)) = if ls[j] = ls[j - 1] then dedA (ls.take j) else dedA (ls.take j) ++ [ls[j]] := by
  rw [dedA_take hj]
  unfold dedS
  rw [dedA_last h0 (by omega)]
  by_cases h : ls[j] = ls[j - 1]
  · rw [if_pos (by rw [h]), if_pos h]
  · rw [if_neg (by intro e; exact h (by simpa using e.symm)), if_neg h]
theorem dedA_one (ls : List α) : dedA (ls.take 1) = ls.take 1 := by
  cases ls with
  | nil => rfl
  | cons x xs => simp [dedA, dedS]
end
section
variable {P : Program} {ρ : Operand → Value} {w W0 : World} {S : List Nat} {l : List (Nat × Obj)} {l' : List Value → List (Nat × Obj)} {R : Value → World → Prop} {d : Option Tmp} {ty : TypeId} {pos : String} {af : Array Edge} {g : Option (Nat × Bool)}
/-- clear of a slice that is not empty, over a block of ours -/
theorem o_clear {t e : TypeId} {x : Operand} {b off n cap sz : Nat} {zs cs : List Value} {t' : TypeId} [ht : TU P t (.slice e)] [hz : TZero P e zs] (M : Mem S W0 w l) (hx : ρ x = .slice (some ⟨b, off, none⟩) n cap) (hn : 0 < n) (hzl : zs.length = sz) (h1 : zs.all (·.oneCell') = true) (hb : Has l b (.cells cs.toArray t' (0, 0))) (hle : off + n * sz ≤ cs.length)
    (hu : ∀ vs, Upd l b (.cells cs.toArray t' (0, 0)) (.cells (splice cs off vs).toArray t' (0, 0)) (l' vs)) (h : ∀ vs w', vs.length = n * sz → Mem S W0 w' (l' vs) → R (.tuple #[]) w') : OpTo P ⟨d, .call ⟨.builtin .clear, #[x], #[t]⟩, ty, pos, af, g⟩ ρ w R := by
  obtain ⟨m, rfl⟩ : ∃ m, n = m + 1 := ⟨n - 1, by omega⟩
  obtain ⟨z, hzc, hzr⟩ := run_zeroC (w := w) hz.h
  have hzs : z.cells.size = sz := by rw [hzc]; simpa using hzl
  obtain ⟨vs, hvs⟩ : ∃ vs, vs = (Builtin.zeroCells z.cells (m + 1)).toList := ⟨_, rfl⟩
  have hvl : vs.length = (m + 1) * sz := by rw [hvs]; simp [Builtin.zeroCells, hzs]
  have hv1 : ∀ v ∈ vs, v.oneCell' = true := by
    intro v hv
    rw [hvs] at hv
    simp only [Builtin.zeroCells, Array.toList_map, List.mem_map] at hv
    obtain ⟨i, hi, rfl⟩ := hv
    have hi2 : i < (m + 1) * z.cells.size := by simpa using hi
    have hpos : 0 < z.cells.size := Nat.pos_of_ne_zero fun h => by rw [h] at hi2; simp at hi2
    have hlt : i % z.cells.size < z.cells.size := Nat.mod_lt _ hpos
    rw [getElem!_pos z.cells (i % z.cells.size) hlt]
    refine List.all_eq_true.1 h1 _ ?_
    have hm : z.cells[i % z.cells.size] ∈ z.cells.toList := by simp
    have hzz : z.cells.toList = zs := by rw [hzc]
    rwa [hzz] at hm
  obtain ⟨w', hr, hE, hb'⟩ := run_storeRow (P := P) (b := b) (off := off) (t' := t') vs 0 cs w (M.heap hb) (by rw [hvl]; omega) hv1
  have hrun : (Builtin.clear_ #[t] ty #[.slice (some ⟨b, off, none⟩) (m + 1) cap]).run P w = .ok (.tuple #[]) w' := by
    simp [Builtin.clear_, run_underlying ht.h, hzr, ← hvs, hr]
  exact OpTo.val (v := .tuple #[]) (w' := w') (by simp [execOp, resolve, invoke, builtin, hx, hrun]) (h vs w' hvl (M.turned (hu vs) hE hb'))
end
theorem take_set_succ {α : Type} {cur : List α} {i : Nat} {x : α} (h : i < cur.length) : (cur.set i x).take (i + 1) = cur.take i ++ [x] := by
  rw [List.take_add_one, List.getElem?_set_self h, List.take_set_of_le (Nat.le_refl _)]
  rfl
set_option maxHeartbeats 8000000 in
theorem compact_ok : CompOk (fun ls => (∀ a ∈ ls, IsIP a) ∧ ls.length ≤ 100000) (fun ls ls' => ls' = dedA ls) := by
  intro S W0 w0 l f v ls ent M0 hOw hl ⟨hI, hlen⟩
  have hsz : ∀ x ∈ ls, (ipC x).length = 16 := fun x hx => ipC_len (hI x hx).len
  obtain ⟨lr, rfl, hf⟩ := hl.spec
  by_cases hn2 : ls.length < 2
  · have hd : dedA ls = ls := by
      rcases ls with _ | ⟨x, _ | ⟨y, r⟩⟩
      · rfl
      · simp [dedA, dedS]
      · simp at hn2; omega
    obtain ⟨q, cap, rfl⟩ := hOw.slice
    refine fn_ofM (n := 61) [] Try.func90 rfl rfl rfl ?_
    intro a w F M hwW
    have hE0 : Mem S W0 w (lr ++ ent) := by rw [hwW]; exact M0
    clear M
    have M := hE0
    with_reducible refine c_seq ?_
    with_reducible refine c_region ?_
    refine stepD rfl F rfl (o_assign (F.ev rfl) ?_); clear F; clear a; intro a F
    with_reducible refine l_nil ?_
    with_reducible refine q_then ?_
    with_reducible refine c_seq ?_
    with_reducible refine c_seq ?_
    with_reducible refine c_region ?_
    refine stepD rfl F rfl (o_move (F.ev rfl) ?_); clear F; clear a; intro a F
    refine stepD rfl F rfl (o_lenSl (F.ev rfl) ?_); clear F; clear a; intro a F
    refine stepD rfl F rfl (o_lssT (F.ev rfl) (F.ev rfl) (by omega) ?_); clear F; clear a; intro a F
    with_reducible refine l_nil ?_
    with_reducible refine q_then ?_
    refine c_true F rfl rfl ?_
    with_reducible refine c_seq ?_
    with_reducible refine c_region ?_
    refine stepD rfl F rfl (o_move (F.ev rfl) ?_); clear F; clear a; intro a F
    refine stepD rfl F rfl (o_assign (F.ev rfl) ?_); clear F; clear a; intro a F
    with_reducible refine l_nil ?_
    with_reducible refine q_then ?_
    with_reducible refine c_ret ?_
    with_reducible refine q_thenR ?_
    refine p_ret F rfl (.cons (.tmp (F.ev rfl)) .nil) ?_
    exact ⟨ls, ent, hd.symm, hOw, by rw [hf]; exact M⟩
  rcases hOw with ⟨_, h0, _, _⟩ | ⟨b, cap, junk, rfl, rfl, hxl, hjl, hnc⟩
  · omega
  replace M0 := M0.perm (l' := (b, .cells (ipsC ls ++ junk).toArray 26 (0, 0)) :: lr) List.perm_append_comm
  refine fn_ofM (n := 61) [] Try.func90 rfl rfl rfl ?_
  intro a w F M hwW
  replace M : Mem S W0 w ((b, .cells (ipsC ls ++ junk).toArray 26 (0, 0)) :: lr) := by rw [hwW]; exact M0
  clear M0 hwW
  with_reducible refine c_seq ?_
  with_reducible refine c_region ?_
  refine stepD rfl F rfl (o_assign (F.ev rfl) ?_); clear F; clear a; intro a F
  with_reducible refine l_nil ?_
  with_reducible refine q_then ?_
  with_reducible refine c_seq ?_
  with_reducible refine c_seq ?_
  with_reducible refine c_region ?_
  refine stepD rfl F rfl (o_move (F.ev rfl) ?_); clear F; clear a; intro a F
  refine stepD rfl F rfl (o_lenSl (F.ev rfl) ?_); clear F; clear a; intro a F
  refine stepD rfl F rfl (o_lssF (F.ev rfl) (F.ev rfl) (by omega) ?_); clear F; clear a; intro a F
  with_reducible refine l_nil ?_
  with_reducible refine q_then ?_
  refine c_false F rfl rfl ?_
  with_reducible refine c_skip ?_
  with_reducible refine q_then ?_
  with_reducible refine c_seq ?_
  with_reducible refine c_seq ?_
  with_reducible refine c_region ?_
  refine stepD rfl F rfl (o_assign (F.ev rfl) ?_); clear F; clear a; intro a F
  with_reducible refine l_nil ?_
  with_reducible refine q_then ?_
  with_reducible refine c_block ?_
  refine c_loop (fun m a w => ∃ i : Nat, m = ls.length - i ∧ 1 ≤ i ∧ i ≤ ls.length ∧ dedA (ls.take i) = ls.take i ∧ Frm a 61 [] [(3, .int .i64 (i : Int)), (0, .slice (some ⟨b, 0, none⟩) ls.length cap)] ∧ Mem S W0 w ((b, .cells (ipsC ls ++ junk).toArray 26 (0, 0)) :: lr)) (ls.length - 1) ⟨1, rfl, by omega, by omega, dedA_one ls, F.only [3, 0] rfl, M⟩ ?_
  clear F M
  rintro m a w ⟨i, hm, hi1, hi, hd, F, M⟩
  by_cases hlt : i < ls.length
  · have f1 : seg (ipsC ls ++ junk) (0 + (i : Int).toNat * 16) 16 = some (ipC ls[i]) := own_el hsz junk hlt (by omega)
    have f2 : seg (ipsC ls ++ junk) (0 + ((i : Int) - 1).toNat * 16) 16 = some (ipC ls[i - 1]) := own_el hsz junk (show i - 1 < ls.length by omega) (by omega)
    have g1 := fits_ip (hI _ (List.getElem_mem hlt)).len
    have g2 := fits_ip (hI _ (List.getElem_mem (show i - 1 < ls.length by omega))).len
    have g3 : eqVs (ipC ls[i]) (ipC ls[i - 1]) = (ls[i] == ls[i - 1]) := eqVs_ip _ _ (by rw [(hI _ (List.getElem_mem hlt)).len, (hI _ (List.getElem_mem (show i - 1 < ls.length by omega))).len])
    have hst := dedA_step (ls := ls) (j := i) (by omega) hlt
    by_cases he : ls[i] = ls[i - 1]
    · rw [if_pos he] at hst
      replace g3 : eqVs (ipC ls[i]) (ipC ls[i - 1]) = true := by rw [g3, he]; simp
      with_reducible refine c_seq ?_
      with_reducible refine c_seq ?_
      with_reducible refine c_region ?_
      refine stepD rfl F rfl (o_move (F.ev rfl) ?_); clear F; clear a; intro a F
      refine stepD rfl F rfl (o_move (F.ev rfl) ?_); clear F; clear a; intro a F
      refine stepD rfl F rfl (o_lenSl (F.ev rfl) ?_); clear F; clear a; intro a F
      refine stepD rfl F rfl (o_lssT (F.ev rfl) (F.ev rfl) (by omega) ?_); clear F; clear a; intro a F
      with_reducible refine l_nil ?_
      with_reducible refine q_then ?_
      refine c_true F rfl rfl ?_
      with_reducible refine c_skip ?_
      with_reducible refine q_then ?_
      with_reducible refine c_seq ?_
      with_reducible refine c_block ?_
      with_reducible refine c_seq ?_
      replace F := F.only [3, 0] rfl
      refine c_draw 9 F (by kernel_rfl) ?_
      intro w1 hE hok
      have M1 := M.later hE
      refine mK hok rfl rfl (fun a' w' F' E' => o_move (F'.ev rfl) ⟨Ext.refl _ _, rfl⟩) ?_
      refine mK hok rfl rfl (fun a' w' F' E' => o_move (F'.ev rfl) ⟨Ext.refl _ _, rfl⟩) ?_
      refine mK hok rfl rfl (fun a' w' F' E' => o_indexSl (F'.ev rfl) (F'.ev rfl) (by omega) (by omega) ⟨Ext.refl _ _, rfl⟩) ?_
      refine mK hok rfl rfl (fun a' w' F' E' => o_loadA (M1.later E') (F'.ev rfl) (by repeat (first | exact .here | apply Has.there)) (by first | assumption | rfl) ⟨Ext.refl _ _, rfl⟩) ?_
      refine mK hok rfl rfl (fun a' w' F' E' => o_move (F'.ev rfl) ⟨Ext.refl _ _, rfl⟩) ?_
      refine mK hok rfl rfl (fun a' w' F' E' => o_move (F'.ev rfl) ⟨Ext.refl _ _, rfl⟩) ?_
      refine mK hok rfl rfl (fun a' w' F' E' => o_sub (F'.ev rfl) (F'.ev rfl) (w_i64 (by omega) (by omega)) ⟨Ext.refl _ _, rfl⟩) ?_
      refine mK hok rfl rfl (fun a' w' F' E' => o_indexSl (F'.ev rfl) (F'.ev rfl) (by omega) (by omega) ⟨Ext.refl _ _, rfl⟩) ?_
      refine mK hok rfl rfl (fun a' w' F' E' => o_loadA (M1.later E') (F'.ev rfl) (by repeat (first | exact .here | apply Has.there)) (by first | assumption | rfl) ⟨Ext.refl _ _, rfl⟩) ?_
      (refine mDone rfl rfl ?_; clear F; clear M; intro a w F hE2 hX hTT hDD hPP; have M := M1.later hE2; clear M1; clear hX; clear hE2; clear hok; clear hE; clear hTT; clear hDD; clear hPP; (try dsimp only at F))
      refine stepD rfl F rfl (o_eqlAT (F.ev rfl) (F.ev rfl) (by first | assumption | rfl) (by first | assumption | rfl) (by assumption) ?_); clear F; clear a; intro a F
      with_reducible refine l_nil ?_
      with_reducible refine q_then ?_
      refine c_true F rfl rfl ?_
      with_reducible refine c_seq ?_
      with_reducible refine c_region ?_
      refine stepD rfl F rfl (o_move (F.ev rfl) ?_); clear F; clear a; intro a F
      refine stepD rfl F rfl (o_move (F.ev rfl) ?_); clear F; clear a; intro a F
      (refine stepD rfl F rfl (o_slL (F.ev rfl) (F.ev rfl) (by omega) (by omega) (by omega) ?_); clear F; clear a; intro a F)
      simp only [Int.toNat_natCast] at F
      refine stepD rfl F rfl (o_assign (F.ev rfl) ?_); clear F; clear a; intro a F
      with_reducible refine l_nil ?_
      with_reducible refine q_then ?_
      with_reducible refine c_seq ?_
      with_reducible refine c_seq ?_
      with_reducible refine c_region ?_
      refine stepD rfl F rfl (o_assign (F.ev rfl) ?_); clear F; clear a; intro a F
      with_reducible refine l_nil ?_
      with_reducible refine q_then ?_
      with_reducible refine c_block ?_
      clear f1 f2 g1 g2 g3
      refine c_loop (fun m a w => ∃ (k i2 : Nat) (cur : List (List Int)), m = ls.length - i - k ∧ 1 ≤ k ∧ i + k ≤ ls.length ∧ cur.length = ls.length ∧ (∀ a ∈ cur, IsIP a) ∧ i2 ≤ i + k - 1 ∧ cur.take i2 = dedA (ls.take (i + k)) ∧ (∀ p, i + k - 1 ≤ p → cur[p]? = ls[p]?) ∧ Frm a 61 [] [(5, .int .i64 (k : Int)), (4, .slice (some ⟨b, 0 + i * 16, none⟩) (ls.length - i) (cap - i)), (3, .int .i64 (i2 : Int)), (0, .slice (some ⟨b, 0, none⟩) ls.length cap)] ∧ Mem S W0 w ((b, .cells (ipsC cur ++ junk).toArray 26 (0, 0)) :: lr)) (ls.length - i - 1) ⟨1, i, ls, rfl, by omega, by omega, rfl, hI, by omega, by rw [hst, hd], fun p _ => rfl, F.only [5, 4, 3, 0] rfl, M⟩ ?_
      clear F M hst
      rintro m2 a w ⟨k, i2, cur, hm2, hk1, hk, hcl, hcI, hi2, hct, hcp, F, M⟩
      have hcs : ∀ x ∈ cur, (ipC x).length = 16 := fun x hx => ipC_len (hcI x hx).len
      by_cases hlt2 : i + k < ls.length
      · have e1 : cur[i + k] = ls[i + k] := by
          have := hcp (i + k) (by omega)
          rwa [List.getElem?_eq_getElem (by omega), List.getElem?_eq_getElem hlt2, Option.some.injEq] at this
        have e2 : cur[i + k - 1] = ls[i + k - 1] := by
          have := hcp (i + k - 1) (by omega)
          rwa [List.getElem?_eq_getElem (by omega), List.getElem?_eq_getElem (by omega), Option.some.injEq] at this
        have hx1 := hI _ (List.getElem_mem hlt2)
        have hx2 := hI _ (List.getElem_mem (show i + k - 1 < ls.length by omega))
        have f1 : seg (ipsC cur ++ junk) (0 + i * 16 + (k : Int).toNat * 16) 16 = some (ipC ls[i + k]) := by rw [← e1]; exact own_el hcs junk (by omega) (by omega)
        have f2 : seg (ipsC cur ++ junk) (0 + i * 16 + ((k : Int) - 1).toNat * 16) 16 = some (ipC ls[i + k - 1]) := by rw [← e2]; exact own_el hcs junk (by omega) (by omega)
        have g1 := fits_ip hx1.len
        have g2 := fits_ip hx2.len
        have g3 : eqVs (ipC ls[i + k]) (ipC ls[i + k - 1]) = (ls[i + k] == ls[i + k - 1]) := eqVs_ip _ _ (by rw [hx1.len, hx2.len])
        have hst := dedA_step (ls := ls) (j := i + k) (by omega) hlt2
        clear e2
        by_cases he2 : ls[i + k] = ls[i + k - 1]
        · rw [if_pos he2] at hst
          replace g3 : eqVs (ipC ls[i + k]) (ipC ls[i + k - 1]) = true := by rw [g3, he2]; simp
          with_reducible refine c_seq ?_
          with_reducible refine c_seq ?_
          with_reducible refine c_region ?_
          refine stepD rfl F rfl (o_move (F.ev rfl) ?_); clear F; clear a; intro a F
          refine stepD rfl F rfl (o_move (F.ev rfl) ?_); clear F; clear a; intro a F
          refine stepD rfl F rfl (o_lenSl (F.ev rfl) ?_); clear F; clear a; intro a F
          refine stepD rfl F rfl (o_lssT (F.ev rfl) (F.ev rfl) (by omega) ?_); clear F; clear a; intro a F
          with_reducible refine l_nil ?_
          with_reducible refine q_then ?_
          refine c_true F rfl rfl ?_
          with_reducible refine c_skip ?_
          with_reducible refine q_then ?_
          with_reducible refine c_seq ?_
          with_reducible refine c_block ?_
          with_reducible refine c_seq ?_
          replace F := F.only [5, 4, 3, 0] rfl
          refine c_draw 9 F (by kernel_rfl) ?_
          intro w1 hE hok
          have M1 := M.later hE
          refine mK hok rfl rfl (fun a' w' F' E' => o_move (F'.ev rfl) ⟨Ext.refl _ _, rfl⟩) ?_
          refine mK hok rfl rfl (fun a' w' F' E' => o_move (F'.ev rfl) ⟨Ext.refl _ _, rfl⟩) ?_
          refine mK hok rfl rfl (fun a' w' F' E' => o_indexSl (F'.ev rfl) (F'.ev rfl) (by omega) (by omega) ⟨Ext.refl _ _, rfl⟩) ?_
          refine mK hok rfl rfl (fun a' w' F' E' => o_loadA (M1.later E') (F'.ev rfl) (by repeat (first | exact .here | apply Has.there)) (by first | assumption | rfl) ⟨Ext.refl _ _, rfl⟩) ?_
          refine mK hok rfl rfl (fun a' w' F' E' => o_move (F'.ev rfl) ⟨Ext.refl _ _, rfl⟩) ?_
          refine mK hok rfl rfl (fun a' w' F' E' => o_move (F'.ev rfl) ⟨Ext.refl _ _, rfl⟩) ?_
          refine mK hok rfl rfl (fun a' w' F' E' => o_sub (F'.ev rfl) (F'.ev rfl) (w_i64 (by omega) (by omega)) ⟨Ext.refl _ _, rfl⟩) ?_
          refine mK hok rfl rfl (fun a' w' F' E' => o_indexSl (F'.ev rfl) (F'.ev rfl) (by omega) (by omega) ⟨Ext.refl _ _, rfl⟩) ?_
          refine mK hok rfl rfl (fun a' w' F' E' => o_loadA (M1.later E') (F'.ev rfl) (by repeat (first | exact .here | apply Has.there)) (by first | assumption | rfl) ⟨Ext.refl _ _, rfl⟩) ?_
          (refine mDone rfl rfl ?_; clear F; clear M; intro a w F hE2 hX hTT hDD hPP; have M := M1.later hE2; clear M1; clear hX; clear hE2; clear hok; clear hE; clear hTT; clear hDD; clear hPP; (try dsimp only at F))
          refine stepD rfl F rfl (o_neqAF (F.ev rfl) (F.ev rfl) (by first | assumption | rfl) (by first | assumption | rfl) (by assumption) ?_); clear F; clear a; intro a F
          with_reducible refine l_nil ?_
          with_reducible refine q_then ?_
          refine c_false F rfl rfl ?_
          with_reducible refine c_skip ?_
          with_reducible refine q_inB ?_
          with_reducible refine q_then ?_
          with_reducible refine c_region ?_
          refine stepD rfl F rfl (o_move (F.ev rfl) ?_); clear F; clear a; intro a F
          refine stepD rfl F rfl (o_add (F.ev rfl) (F.ev rfl) (w_i64 (by omega) (by omega)) ?_); clear F; clear a; intro a F
          refine stepD rfl F rfl (o_assign (F.ev rfl) ?_); clear F; clear a; intro a F
          with_reducible refine l_nil ?_
          with_reducible refine q_then ?_
          exact ⟨_, by omega, k + 1, i2, cur, rfl, by omega, by omega, hcl, hcI, by omega, by rw [hct, ← Nat.add_assoc, hst], fun p hp => hcp p (by omega), F.only [5, 4, 3, 0] rfl, M⟩
        · rw [if_neg he2] at hst
          replace g3 : eqVs (ipC ls[i + k]) (ipC ls[i + k - 1]) = false := by rw [g3]; simpa using he2
          have l1 : (ipC ls[i + k]).length = 16 := ipC_len hx1.len
          have hpt : put (ipsC cur ++ junk) (0 + (i2 : Int).toNat * 16) (ipC ls[i + k]) = some (ipsC (cur.set i2 ls[i + k]) ++ junk) :=
            encL_put hcs junk (show i2 < cur.length by omega) (off := 0) (put_all (by rw [l1, hcs _ (List.getElem_mem _)])) (by omega)
          with_reducible refine c_seq ?_
          with_reducible refine c_seq ?_
          with_reducible refine c_region ?_
          refine stepD rfl F rfl (o_move (F.ev rfl) ?_); clear F; clear a; intro a F
          refine stepD rfl F rfl (o_move (F.ev rfl) ?_); clear F; clear a; intro a F
          refine stepD rfl F rfl (o_lenSl (F.ev rfl) ?_); clear F; clear a; intro a F
          refine stepD rfl F rfl (o_lssT (F.ev rfl) (F.ev rfl) (by omega) ?_); clear F; clear a; intro a F
          with_reducible refine l_nil ?_
          with_reducible refine q_then ?_
          refine c_true F rfl rfl ?_
          with_reducible refine c_skip ?_
          with_reducible refine q_then ?_
          with_reducible refine c_seq ?_
          with_reducible refine c_block ?_
          with_reducible refine c_seq ?_
          replace F := F.only [5, 4, 3, 0] rfl
          refine c_draw 9 F (by kernel_rfl) ?_
          intro w1 hE hok
          have M1 := M.later hE
          refine mK hok rfl rfl (fun a' w' F' E' => o_move (F'.ev rfl) ⟨Ext.refl _ _, rfl⟩) ?_
          refine mK hok rfl rfl (fun a' w' F' E' => o_move (F'.ev rfl) ⟨Ext.refl _ _, rfl⟩) ?_
          refine mK hok rfl rfl (fun a' w' F' E' => o_indexSl (F'.ev rfl) (F'.ev rfl) (by omega) (by omega) ⟨Ext.refl _ _, rfl⟩) ?_
          refine mK hok rfl rfl (fun a' w' F' E' => o_loadA (M1.later E') (F'.ev rfl) (by repeat (first | exact .here | apply Has.there)) (by first | assumption | rfl) ⟨Ext.refl _ _, rfl⟩) ?_
          refine mK hok rfl rfl (fun a' w' F' E' => o_move (F'.ev rfl) ⟨Ext.refl _ _, rfl⟩) ?_
          refine mK hok rfl rfl (fun a' w' F' E' => o_move (F'.ev rfl) ⟨Ext.refl _ _, rfl⟩) ?_
          refine mK hok rfl rfl (fun a' w' F' E' => o_sub (F'.ev rfl) (F'.ev rfl) (w_i64 (by omega) (by omega)) ⟨Ext.refl _ _, rfl⟩) ?_
          refine mK hok rfl rfl (fun a' w' F' E' => o_indexSl (F'.ev rfl) (F'.ev rfl) (by omega) (by omega) ⟨Ext.refl _ _, rfl⟩) ?_
          refine mK hok rfl rfl (fun a' w' F' E' => o_loadA (M1.later E') (F'.ev rfl) (by repeat (first | exact .here | apply Has.there)) (by first | assumption | rfl) ⟨Ext.refl _ _, rfl⟩) ?_
          (refine mDone rfl rfl ?_; clear F; clear M; intro a w F hE2 hX hTT hDD hPP; have M := M1.later hE2; clear M1; clear hX; clear hE2; clear hok; clear hE; clear hTT; clear hDD; clear hPP; (try dsimp only at F))
          refine stepD rfl F rfl (o_neqAT (F.ev rfl) (F.ev rfl) (by first | assumption | rfl) (by first | assumption | rfl) (by assumption) ?_); clear F; clear a; intro a F
          with_reducible refine l_nil ?_
          with_reducible refine q_then ?_
          refine c_true F rfl rfl ?_
          with_reducible refine c_seq ?_
          with_reducible refine c_region ?_
          refine stepD rfl F rfl (o_move (F.ev rfl) ?_); clear F; clear a; intro a F
          refine stepD rfl F rfl (o_move (F.ev rfl) ?_); clear F; clear a; intro a F
          refine stepD rfl F rfl (o_move (F.ev rfl) ?_); clear F; clear a; intro a F
          refine stepD rfl F rfl (o_move (F.ev rfl) ?_); clear F; clear a; intro a F
          refine stepD rfl F rfl (o_indexSl (F.ev rfl) (F.ev rfl) (by omega) (by omega) ?_); clear F; clear a; intro a F
          refine stepD rfl F rfl (o_loadA M (F.ev rfl) (by repeat (first | exact .here | apply Has.there)) (by first | assumption | rfl) ?_); clear F; clear a; intro a F
          refine stepD rfl F rfl (o_indexSl (F.ev rfl) (F.ev rfl) (by omega) (by omega) ?_); clear F; clear a; intro a F
          (refine stepN rfl F (o_storeA M (F.ev rfl) (F.ev rfl) l1 (one_ip _)  (by repeat (first | exact .here | apply Has.there))  hpt (by repeat (first | exact .here | apply Upd.there)) ?_); clear F; clear M; intro w M a F)
          with_reducible refine l_nil ?_
          with_reducible refine q_then ?_
          with_reducible refine c_region ?_
          refine stepD rfl F rfl (o_move (F.ev rfl) ?_); clear F; clear a; intro a F
          refine stepD rfl F rfl (o_add (F.ev rfl) (F.ev rfl) (w_i64 (by omega) (by omega)) ?_); clear F; clear a; intro a F
          refine stepD rfl F rfl (o_assign (F.ev rfl) ?_); clear F; clear a; intro a F
          with_reducible refine l_nil ?_
          with_reducible refine q_inB ?_
          with_reducible refine q_then ?_
          with_reducible refine c_region ?_
          refine stepD rfl F rfl (o_move (F.ev rfl) ?_); clear F; clear a; intro a F
          refine stepD rfl F rfl (o_add (F.ev rfl) (F.ev rfl) (w_i64 (by omega) (by omega)) ?_); clear F; clear a; intro a F
          refine stepD rfl F rfl (o_assign (F.ev rfl) ?_); clear F; clear a; intro a F
          with_reducible refine l_nil ?_
          with_reducible refine q_then ?_
          exact ⟨_, by omega, k + 1, i2 + 1, _, rfl, by omega, by omega, by rw [List.length_set]; exact hcl, fun a ha => by
            rcases List.mem_or_eq_of_mem_set ha with h | h
            · exact hcI a h
            · rw [h]; exact hx1, by omega, by rw [take_set_succ (by omega), hct, ← Nat.add_assoc, hst], fun p hp => by rw [List.getElem?_set_ne (by omega)]; exact hcp p (by omega), F.only [5, 4, 3, 0] rfl, M⟩
      · have hkl : i + k = ls.length := by omega
        rw [hkl, List.take_length] at hct
        with_reducible refine c_seq ?_
        with_reducible refine c_seq ?_
        with_reducible refine c_region ?_
        refine stepD rfl F rfl (o_move (F.ev rfl) ?_); clear F; clear a; intro a F
        refine stepD rfl F rfl (o_move (F.ev rfl) ?_); clear F; clear a; intro a F
        refine stepD rfl F rfl (o_lenSl (F.ev rfl) ?_); clear F; clear a; intro a F
        refine stepD rfl F rfl (o_lssF (F.ev rfl) (F.ev rfl) (by omega) ?_); clear F; clear a; intro a F
        with_reducible refine l_nil ?_
        with_reducible refine q_then ?_
        refine c_false F rfl rfl ?_
        with_reducible refine c_exit ?_
        with_reducible refine q_thenX ?_
        with_reducible refine q_thenX ?_
        with_reducible refine q_inBX ?_
        with_reducible refine q_then ?_
        with_reducible refine c_seq ?_
        with_reducible refine c_region ?_
        refine stepD rfl F rfl (o_move (F.ev rfl) ?_); clear F; clear a; intro a F
        refine stepD rfl F rfl (o_move (F.ev rfl) ?_); clear F; clear a; intro a F
        (refine stepD rfl F rfl (o_slL (F.ev rfl) (F.ev rfl) (by omega) (by omega) (by omega) ?_); clear F; clear a; intro a F)
        simp only [Int.toNat_natCast] at F
        have hcl2 : (ipsC cur ++ junk).length = cap * 16 := by rw [List.length_append, encL_len hcs, hjl, hcl, ← Nat.add_mul]; congr 1; omega
        (refine stepN rfl F (o_clear (sz := 16) M (F.ev rfl) (by omega) rfl rfl .here (by rw [hcl2]; omega) (fun vs => .here) ?_); clear F; clear M; intro vs w hvs M a F)
        with_reducible refine l_nil ?_
        with_reducible refine q_then ?_
        with_reducible refine c_seq ?_
        with_reducible refine c_region ?_
        refine stepD rfl F rfl (o_move (F.ev rfl) ?_); clear F; clear a; intro a F
        refine stepD rfl F rfl (o_move (F.ev rfl) ?_); clear F; clear a; intro a F
        (refine stepD rfl F rfl (o_slH (F.ev rfl) (F.ev rfl) (by simp) (by omega) (by omega) ?_); clear F; clear a; intro a F)
        simp only [Int.toNat_natCast] at F
        refine stepD rfl F rfl (o_assign (F.ev rfl) ?_); clear F; clear a; intro a F
        with_reducible refine l_nil ?_
        with_reducible refine q_then ?_
        with_reducible refine c_ret ?_
        with_reducible refine q_inBR ?_
        with_reducible refine q_thenR ?_
        with_reducible refine q_thenR ?_
        with_reducible refine q_inBR ?_
        with_reducible refine q_thenR ?_
        refine p_ret F rfl (.cons (.tmp (F.ev rfl)) .nil) ?_
        have hil : (dedA ls).length = i2 := by rw [← hct, List.length_take]; omega
        refine ⟨dedA ls, [(b, .cells (ipsC (dedA ls) ++ (vs ++ (ipsC cur ++ junk).drop (0 + i2 * 16 + vs.length))).toArray 26 (0, 0))], rfl, .inr ⟨b, cap, _, by rw [hil]; rfl, rfl, by rw [encL_len (fun x hx => hcs x (List.mem_of_mem_take (by rw [hct]; exact hx)))], by rw [List.length_append, List.length_drop, hcl2, hvs, hil]; omega, by omega⟩, ?_⟩
        rw [hf]
        refine Mem.perm ?_ (List.perm_append_comm (l₁ := [_]) (l₂ := lr))
        have hsp : splice (ipsC cur ++ junk) (0 + i2 * 16) vs = ipsC (dedA ls) ++ (vs ++ (ipsC cur ++ junk).drop (0 + i2 * 16 + vs.length)) := by
          unfold splice
          rw [List.take_append_of_le_length (by rw [encL_len hcs]; omega), Nat.zero_add, encL_take hcs, hct]
        rw [← hsp]
        exact M
    · rw [if_neg he] at hst
      replace g3 : eqVs (ipC ls[i]) (ipC ls[i - 1]) = false := by rw [g3]; simpa using he
      with_reducible refine c_seq ?_
      with_reducible refine c_seq ?_
      with_reducible refine c_region ?_
      refine stepD rfl F rfl (o_move (F.ev rfl) ?_); clear F; clear a; intro a F
      refine stepD rfl F rfl (o_move (F.ev rfl) ?_); clear F; clear a; intro a F
      refine stepD rfl F rfl (o_lenSl (F.ev rfl) ?_); clear F; clear a; intro a F
      refine stepD rfl F rfl (o_lssT (F.ev rfl) (F.ev rfl) (by omega) ?_); clear F; clear a; intro a F
      with_reducible refine l_nil ?_
      with_reducible refine q_then ?_
      refine c_true F rfl rfl ?_
      with_reducible refine c_skip ?_
      with_reducible refine q_then ?_
      with_reducible refine c_seq ?_
      with_reducible refine c_block ?_
      with_reducible refine c_seq ?_
      replace F := F.only [3, 0] rfl
      refine c_draw 9 F (by kernel_rfl) ?_
      intro w1 hE hok
      have M1 := M.later hE
      refine mK hok rfl rfl (fun a' w' F' E' => o_move (F'.ev rfl) ⟨Ext.refl _ _, rfl⟩) ?_
      refine mK hok rfl rfl (fun a' w' F' E' => o_move (F'.ev rfl) ⟨Ext.refl _ _, rfl⟩) ?_
      refine mK hok rfl rfl (fun a' w' F' E' => o_indexSl (F'.ev rfl) (F'.ev rfl) (by omega) (by omega) ⟨Ext.refl _ _, rfl⟩) ?_
      refine mK hok rfl rfl (fun a' w' F' E' => o_loadA (M1.later E') (F'.ev rfl) (by repeat (first | exact .here | apply Has.there)) (by first | assumption | rfl) ⟨Ext.refl _ _, rfl⟩) ?_
      refine mK hok rfl rfl (fun a' w' F' E' => o_move (F'.ev rfl) ⟨Ext.refl _ _, rfl⟩) ?_
      refine mK hok rfl rfl (fun a' w' F' E' => o_move (F'.ev rfl) ⟨Ext.refl _ _, rfl⟩) ?_
      refine mK hok rfl rfl (fun a' w' F' E' => o_sub (F'.ev rfl) (F'.ev rfl) (w_i64 (by omega) (by omega)) ⟨Ext.refl _ _, rfl⟩) ?_
      refine mK hok rfl rfl (fun a' w' F' E' => o_indexSl (F'.ev rfl) (F'.ev rfl) (by omega) (by omega) ⟨Ext.refl _ _, rfl⟩) ?_
      refine mK hok rfl rfl (fun a' w' F' E' => o_loadA (M1.later E') (F'.ev rfl) (by repeat (first | exact .here | apply Has.there)) (by first | assumption | rfl) ⟨Ext.refl _ _, rfl⟩) ?_
      (refine mDone rfl rfl ?_; clear F; clear M; intro a w F hE2 hX hTT hDD hPP; have M := M1.later hE2; clear M1; clear hX; clear hE2; clear hok; clear hE; clear hTT; clear hDD; clear hPP; (try dsimp only at F))
      refine stepD rfl F rfl (o_eqlAF (F.ev rfl) (F.ev rfl) (by first | assumption | rfl) (by first | assumption | rfl) (by assumption) ?_); clear F; clear a; intro a F
      with_reducible refine l_nil ?_
      with_reducible refine q_then ?_
      refine c_false F rfl rfl ?_
      with_reducible refine c_skip ?_
      with_reducible refine q_inB ?_
      with_reducible refine q_then ?_
      with_reducible refine c_region ?_
      refine stepD rfl F rfl (o_move (F.ev rfl) ?_); clear F; clear a; intro a F
      refine stepD rfl F rfl (o_add (F.ev rfl) (F.ev rfl) (w_i64 (by omega) (by omega)) ?_); clear F; clear a; intro a F
      refine stepD rfl F rfl (o_assign (F.ev rfl) ?_); clear F; clear a; intro a F
      with_reducible refine l_nil ?_
      with_reducible refine q_then ?_
      exact ⟨_, by omega, i + 1, rfl, by omega, by omega, by rw [hst, hd, List.take_add_one, List.getElem?_eq_getElem hlt]; rfl, F.only [3, 0] rfl, M⟩
  · obtain rfl : i = ls.length := by omega
    rw [List.take_length] at hd
    with_reducible refine c_seq ?_
    with_reducible refine c_seq ?_
    with_reducible refine c_region ?_
    refine stepD rfl F rfl (o_move (F.ev rfl) ?_); clear F; clear a; intro a F
    refine stepD rfl F rfl (o_move (F.ev rfl) ?_); clear F; clear a; intro a F
    refine stepD rfl F rfl (o_lenSl (F.ev rfl) ?_); clear F; clear a; intro a F
    refine stepD rfl F rfl (o_lssF (F.ev rfl) (F.ev rfl) (by omega) ?_); clear F; clear a; intro a F
    with_reducible refine l_nil ?_
    with_reducible refine q_then ?_
    refine c_false F rfl rfl ?_
    with_reducible refine c_exit ?_
    with_reducible refine q_thenX ?_
    with_reducible refine q_thenX ?_
    with_reducible refine q_inBX ?_
    with_reducible refine q_then ?_
    with_reducible refine c_seq ?_
    with_reducible refine c_region ?_
    refine stepD rfl F rfl (o_move (F.ev rfl) ?_); clear F; clear a; intro a F
    refine stepD rfl F rfl (o_assign (F.ev rfl) ?_); clear F; clear a; intro a F
    with_reducible refine l_nil ?_
    with_reducible refine q_then ?_
    with_reducible refine c_ret ?_
    refine p_ret F rfl (.cons (.tmp (F.ev rfl)) .nil) ?_
    refine ⟨ls, _, hd.symm, .inr ⟨b, cap, junk, rfl, rfl, hxl, hjl, hnc⟩, ?_⟩
    rw [hf]
    exact M.perm (List.perm_append_comm (l₁ := [_]) (l₂ := lr))
end Go.Proofs.Ytainnefmobfcjaa
/-! FB -/
namespace Go.Proofs.Ytainnefmobfcjaa
set_option linter.unusedVariables false
set_option linter.unusedSimpArgs false
open Go.RowKit
attribute [local irreducible] OpTo wpListIn Code.wpIn MW Cal
theorem rcopyV_c (x : OV) (hx : IsOff x.o) (h1 : x.o.ps.length ≤ 100000) (h2 : x.o.cs.length ≤ 100000) (W : World) (hA : OffAt W x) :
    Cal Try.prog 63 [.agg (ovC x).toArray].toArray W fun r w' => ∃ u v eu ev, r = .agg (ovC ⟨x.o, u, v⟩).toArray ∧ OwnS 111 20 u x.o.ps.length (pisC x.o.ps) eu ∧ OwnS 116 20 v x.o.cs.length (cisC x.o.cs) ev ∧ Mem [] W w' (eu ++ ev) := rcopy_c x hx h1 h2 W hA
def pn : Bool → Nat
  | true => 1
  | false => 0
theorem pn_le (b : Bool) : pn b ≤ 1 := by cases b <;> decide
/-- how far the reference has come -/
def Pl (o : Off) (placed : Bool) (out pre rest : List Off) : Prop :=
  if placed then insO o (pre ++ rest) = some (out ++ rest) ∧ ∀ y ∈ rest, 0 < cmpL y.h.rt o.h.rt
  else out = pre ∧ ∀ y ∈ pre, cmpL y.h.rt o.h.rt < 0
theorem insO_pre {o : Off} : ∀ {pre : List Off} (r : List Off), (∀ y ∈ pre, cmpL y.h.rt o.h.rt < 0) → insO o (pre ++ r) = (insO o r).map (pre ++ ·)
  | [], r, _ => by simp
  | y :: pre, r, h => by
    have ih := insO_pre r fun z hz => h z (List.mem_cons_of_mem _ hz)
    simp only [List.cons_append, insO, if_pos (h y List.mem_cons_self), ih, Option.map_map]
    rfl
theorem cmpL_pos {a b c : List Int} (h1 : 0 ≤ cmpL a c) (h2 : cmpL a b < 0) : 0 < cmpL b c := by
  rcases Int.lt_trichotomy (cmpL b c) 0 with h | h | h
  · exact absurd (cmpL_lt_trans h2 h) (by omega)
  · rw [cmpL_zero h] at h2; omega
  · exact h
theorem Pl.skip {o : Off} {placed : Bool} {out pre rest : List Off} (h : Pl o placed out pre rest) : Pl o placed out (pre ++ []) rest := by simpa using h
theorem Pl.lo {o y : Off} {out pre rest : List Off} (h : Pl o false out pre (y :: rest)) (hk : cmpL y.h.rt o.h.rt < 0) : Pl o false (out ++ [y]) (pre ++ [y]) rest := by
  simp only [Pl, Bool.false_eq_true, if_false] at *
  refine ⟨by rw [h.1], fun z hz => ?_⟩
  rcases List.mem_append.1 hz with h1 | h1
  · exact h.2 z h1
  · simp only [List.mem_singleton] at h1; rw [h1]; exact hk
theorem Pl.stale {o y : Off} {out pre rest : List Off} (h : Pl o false out pre (y :: rest)) (hk : cmpL y.h.rt o.h.rt = 0) (hv : o.h.ver < y.h.ver) : insO o (pre ++ y :: rest) = none := by
  simp only [Pl, Bool.false_eq_true, if_false] at h
  rw [insO_pre _ h.2]
  simp [insO, hk, hv]
theorem Pl.same {o y : Off} {out pre rest : List Off} (h : Pl o false out pre (y :: rest)) (ha : Asc (y :: rest)) (hk : cmpL y.h.rt o.h.rt = 0) (hv : y.h.ver = o.h.ver) : Pl o true (out ++ [later2 y o]) (pre ++ [y]) rest := by
  simp only [Pl, Bool.false_eq_true, if_false, if_true] at *
  refine ⟨?_, fun z hz => cmpL_pos (by omega) ((List.pairwise_cons.1 ha).1 z hz)⟩
  rw [List.append_assoc, insO_pre _ h.2, h.1]
  simp [insO, hk, hv, later2]
theorem Pl.new {o y : Off} {out pre rest : List Off} (h : Pl o false out pre (y :: rest)) (ha : Asc (y :: rest)) (hk : cmpL y.h.rt o.h.rt = 0) (hv : ¬ o.h.ver < y.h.ver) (hv2 : ¬ y.h.ver = o.h.ver) : Pl o true (out ++ [o]) (pre ++ [y]) rest := by
  simp only [Pl, Bool.false_eq_true, if_false, if_true] at *
  refine ⟨?_, fun z hz => cmpL_pos (by omega) ((List.pairwise_cons.1 ha).1 z hz)⟩
  rw [List.append_assoc, insO_pre _ h.2, h.1]
  simp [insO, hk, hv, hv2]
theorem Pl.hi {o y : Off} {out pre rest : List Off} (h : Pl o false out pre (y :: rest)) (ha : Asc (y :: rest)) (hk : 0 < cmpL y.h.rt o.h.rt) : Pl o true ((out ++ [o]) ++ [y]) (pre ++ [y]) rest := by
  simp only [Pl, Bool.false_eq_true, if_false, if_true] at *
  refine ⟨?_, fun z hz => cmpL_pos (by omega) ((List.pairwise_cons.1 ha).1 z hz)⟩
  rw [List.append_assoc, insO_pre _ h.2, h.1]
  simp [insO, show ¬ cmpL y.h.rt o.h.rt < 0 by omega, show ¬ cmpL y.h.rt o.h.rt = 0 by omega]
theorem Pl.on {o y : Off} {out pre rest : List Off} (h : Pl o true out pre (y :: rest)) : Pl o true (out ++ [y]) (pre ++ [y]) rest := by
  simp only [Pl, if_true] at *
  exact ⟨by simpa using h.1, fun z hz => h.2 z (List.mem_cons_of_mem _ hz)⟩
theorem Pl.end {o : Off} {out pre : List Off} (h : Pl o false out pre []) : insO o pre = some (out ++ [o]) := by
  simp only [Pl, Bool.false_eq_true, if_false] at h
  have := insO_pre [] h.2
  rw [List.append_nil] at this
  rw [this, h.1]; rfl
theorem Pl.endT {o : Off} {out pre : List Off} (h : Pl o true out pre []) : insO o pre = some out := by
  simp only [Pl, if_true] at h
  simpa using h.1
theorem curO_take {os : List Off} {now : Int} {i : Nat} (hi : i < os.length) : curO (os.take (i + 1)) now = curO (os.take i) now ++ if now < os[i].h.til then [os[i]] else [] := by
  unfold curO
  rw [List.take_add_one, List.getElem?_eq_getElem hi, List.filter_append]
  congr 1
  simp only [Option.toList_some, List.filter_cons, List.filter_nil]
  by_cases h : now < os[i].h.til <;> simp [h]
theorem curO_drop {os : List Off} {now : Int} {i : Nat} (hi : i < os.length) : curO (os.drop i) now = (if now < os[i].h.til then [os[i]] else []) ++ curO (os.drop (i + 1)) now := by
  unfold curO
  rw [List.drop_eq_getElem_cons hi, List.filter_cons]
  by_cases h : now < os[i].h.til <;> simp [h]
set_option maxHeartbeats 8000000 in
theorem raccept_c (xs : List OV) (hx : ∀ x ∈ xs, IsOff x.o) (v : Value) (now : Int) (x : OV) (hxo : IsOff x.o) (W : World) (hS : SlAt W 20 v xs.length (encL ovC xs)) (hA : ∀ x ∈ xs, OffAt W x) (hxa : OffAt W x) :
    Cal Try.prog 60 [v, .int .i64 now, .agg (ovC x).toArray].toArray W fun r w' => ∃ s, r = .tuple #[s, .int .i64 (acceptV (xs.map (·.o)) now x.o).2] ∧ OffsN W.heap.size w' s (acceptV (xs.map (·.o)) now x.o).1 ∧ Ext [] W w' := by
  have hSs := hS
  obtain ⟨q, cap, rfl, hcap, hsp, hl, hm⟩ := hS
  have e1 : nth (ovC x) 17 = some (.int .i64 x.o.h.til) := of_til hxo.1 _ _
  have e2 : seg (ovC x) 0 20 = some (ovC x) := of_all hxo.1 _ _
  have e3 : seg (ovC x) 0 16 = some (ipC x.o.h.rt) := of_rt hxo.1 _ _
  have e4 : nth (ovC x) 16 = some (.int .i64 x.o.h.ver) := of_ver hxo.1 _ _
  have hle : ∀ z ∈ xs, (ovC z).length = 20 := fun z h => ov_len (hx z h)
  refine fn_ofM (n := 104) [] Try.func60 rfl rfl rfl ?_
  intro a w F M hwW
  refine c_seq ?_
  refine c_region ?_
  (refine stepD rfl F rfl (o_box M (F.ev rfl) rfl ?_); clear F; clear M; intro b5 w M a F)
  refine stepD rfl F rfl (o_assign (F.ev rfl) ?_); clear F; clear a; intro a F
  refine stepD rfl F rfl (o_assign (F.ev rfl) ?_); clear F; clear a; intro a F
  with_reducible refine l_nil ?_
  with_reducible refine q_then ?_
  with_reducible refine c_seq ?_
  with_reducible refine c_seq ?_
  with_reducible refine c_region ?_
  refine stepD rfl F rfl (o_move (F.ev rfl) ?_); clear F; clear a; intro a F
  (refine stepD rfl F rfl (o_call (F.ev rfl) (F.evs rfl) (Cal.mono (rvalidL_c xs hx _ _ (hSs.later M.ext) (fun z hz => (hA z hz).later M.ext)) ?_)); clear F; clear a; rintro _ w ⟨rfl, hE⟩ a F; replace M := M.later hE; clear hE)
  cases hv : validL (xs.map (·.o))
  · have hacc : acceptV (xs.map (·.o)) now x.o = ([], 1) := by unfold acceptV; rw [hv]; rfl
    rw [hacc]
    rw [hv] at F
    refine stepD rfl F rfl (o_not (F.ev rfl) ?_); clear F; clear a; intro a F
    refine stepD rfl F rfl (o_move (F.ev rfl) ?_); clear F; clear a; intro a F
    refine stepOff F rfl rfl rfl rfl ?_; clear F; clear a; intro a F
    refine stepOff F rfl rfl rfl rfl ?_; clear F; clear a; intro a F
    refine stepOff F rfl rfl rfl rfl ?_; clear F; clear a; intro a F
    refine stepD rfl F rfl (o_pickT (F.ev rfl) (F.ev rfl) ?_); clear F; clear a; intro a F
    with_reducible refine l_nil ?_
    with_reducible refine q_then ?_
    refine c_true F rfl rfl ?_
    with_reducible refine c_seq ?_
    with_reducible refine c_region ?_
    refine stepD rfl F rfl (o_assign (F.ev rfl) ?_); clear F; clear a; intro a F
    refine stepD rfl F rfl (o_assign (F.ev rfl) ?_); clear F; clear a; intro a F
    with_reducible refine l_nil ?_
    with_reducible refine q_then ?_
    with_reducible refine c_ret ?_
    with_reducible refine q_thenR ?_
    refine p_ret F rfl (.cons (.tmp (F.ev rfl)) (.cons (.tmp (F.ev rfl)) .nil)) ?_
    exact ⟨_, rfl, OffsN.nil _ _, M.ext⟩
  rw [hv] at F
  refine stepD rfl F rfl (o_not (F.ev rfl) ?_); clear F; clear a; intro a F
  refine stepD rfl F rfl (o_move (F.ev rfl) ?_); clear F; clear a; intro a F
  refine stepG rfl F rfl rfl rfl (o_loadA M (F.ev rfl) (by repeat (first | exact .here | apply Has.there)) (by first | assumption | rfl) ?_); clear F; clear a; intro a F
  (refine stepG rfl F rfl rfl rfl (o_call (F.ev rfl) (F.evs rfl) (Cal.mono (rvalidOffer_c x hxo _ (hxa.later M.ext)) ?_)); clear F; clear a; rintro _ w ⟨rfl, hE⟩ a F; replace M := M.later hE; clear hE)
  cases ho : validO x.o
  · have hacc : acceptV (xs.map (·.o)) now x.o = ([], 1) := by unfold acceptV; rw [hv, ho]; rfl
    rw [hacc]
    rw [ho] at F
    refine stepG rfl F rfl rfl rfl (o_not (F.ev rfl) ?_); clear F; clear a; intro a F
    refine stepD rfl F rfl (o_pickF (F.ev rfl) (F.ev rfl) ?_); clear F; clear a; intro a F
    with_reducible refine l_nil ?_
    with_reducible refine q_then ?_
    refine c_true F rfl rfl ?_
    with_reducible refine c_seq ?_
    with_reducible refine c_region ?_
    refine stepD rfl F rfl (o_assign (F.ev rfl) ?_); clear F; clear a; intro a F
    refine stepD rfl F rfl (o_assign (F.ev rfl) ?_); clear F; clear a; intro a F
    with_reducible refine l_nil ?_
    with_reducible refine q_then ?_
    with_reducible refine c_ret ?_
    with_reducible refine q_thenR ?_
    refine p_ret F rfl (.cons (.tmp (F.ev rfl)) (.cons (.tmp (F.ev rfl)) .nil)) ?_
    exact ⟨_, rfl, OffsN.nil _ _, M.ext⟩
  rw [ho] at F
  refine stepG rfl F rfl rfl rfl (o_not (F.ev rfl) ?_); clear F; clear a; intro a F
  refine stepD rfl F rfl (o_pickF (F.ev rfl) (F.ev rfl) ?_); clear F; clear a; intro a F
  with_reducible refine l_nil ?_
  with_reducible refine q_then ?_
  refine c_false F rfl rfl ?_
  with_reducible refine c_skip ?_
  with_reducible refine q_then ?_
  with_reducible refine c_seq ?_
  with_reducible refine c_seq ?_
  with_reducible refine c_region ?_
  refine stepD rfl F rfl (o_move (F.ev rfl) ?_); clear F; clear a; intro a F
  (refine stepD rfl F rfl (o_call (F.ev rfl) (F.evs rfl) (Cal.mono (risTime_c now _) ?_)); clear F; clear a; rintro _ w ⟨rfl, hE⟩ a F; replace M := M.later hE; clear hE)
  cases htm : isTime now
  · have hacc : acceptV (xs.map (·.o)) now x.o = ([], 2) := by unfold acceptV; rw [hv, ho, htm]; rfl
    rw [hacc]
    rw [htm] at F
    refine stepD rfl F rfl (o_not (F.ev rfl) ?_); clear F; clear a; intro a F
    with_reducible refine l_nil ?_
    with_reducible refine q_then ?_
    refine c_true F rfl rfl ?_
    with_reducible refine c_seq ?_
    with_reducible refine c_region ?_
    refine stepD rfl F rfl (o_assign (F.ev rfl) ?_); clear F; clear a; intro a F
    refine stepD rfl F rfl (o_assign (F.ev rfl) ?_); clear F; clear a; intro a F
    with_reducible refine l_nil ?_
    with_reducible refine q_then ?_
    with_reducible refine c_ret ?_
    with_reducible refine q_thenR ?_
    refine p_ret F rfl (.cons (.tmp (F.ev rfl)) (.cons (.tmp (F.ev rfl)) .nil)) ?_
    exact ⟨_, rfl, OffsN.nil _ _, M.ext⟩
  rw [htm] at F
  by_cases c4 : x.o.h.til ≤ now
  · have hacc : acceptV (xs.map (·.o)) now x.o = ([], 14) := by
      unfold acceptV
      rw [hv, ho, htm]
      simp only [Bool.and_self, if_true, if_pos c4]
    rw [hacc]
    refine stepD rfl F rfl (o_not (F.ev rfl) ?_); clear F; clear a; intro a F
    with_reducible refine l_nil ?_
    with_reducible refine q_then ?_
    refine c_false F rfl rfl ?_
    with_reducible refine c_skip ?_
    with_reducible refine q_then ?_
    with_reducible refine c_seq ?_
    with_reducible refine c_seq ?_
    with_reducible refine c_region ?_
    refine stepD rfl F rfl (o_fieldAddr (F.ev rfl) ?_); clear F; clear a; intro a F
    refine stepD rfl F rfl (o_load1 M (F.ev rfl) (by repeat (first | exact .here | apply Has.there)) (by first | assumption | rfl) ?_); clear F; clear a; intro a F
    refine stepD rfl F rfl (o_move (F.ev rfl) ?_); clear F; clear a; intro a F
    refine stepD rfl F rfl (o_leqT (F.ev rfl) (F.ev rfl) (by omega) ?_); clear F; clear a; intro a F
    with_reducible refine l_nil ?_
    with_reducible refine q_then ?_
    refine c_true F rfl rfl ?_
    with_reducible refine c_seq ?_
    with_reducible refine c_region ?_
    refine stepD rfl F rfl (o_assign (F.ev rfl) ?_); clear F; clear a; intro a F
    refine stepD rfl F rfl (o_assign (F.ev rfl) ?_); clear F; clear a; intro a F
    with_reducible refine l_nil ?_
    with_reducible refine q_then ?_
    with_reducible refine c_ret ?_
    with_reducible refine q_thenR ?_
    refine p_ret F rfl (.cons (.tmp (F.ev rfl)) (.cons (.tmp (F.ev rfl)) .nil)) ?_
    exact ⟨_, rfl, OffsN.nil _ _, M.ext⟩
  have hlen := validL_len hv
  rw [List.length_map] at hlen
  have hov := validO_len ho
  have hasc := validL_asc hv
  have hfl : ∀ r, insO x.o (curO (xs.map (·.o)) now) = r → acceptV (xs.map (·.o)) now x.o = match r with
      | none => ([], 16)
      | some r => if 8 < r.length then ([], 10) else (r, 0) := fun r hr => by
    unfold acceptV
    rw [hv, ho, htm]
    simp only [Bool.and_self, if_true, if_neg c4, hr] <;> (cases r <;> rfl)
  refine stepD rfl F rfl (o_not (F.ev rfl) ?_); clear F; clear a; intro a F
  with_reducible refine l_nil ?_
  with_reducible refine q_then ?_
  refine c_false F rfl rfl ?_
  with_reducible refine c_skip ?_
  with_reducible refine q_then ?_
  with_reducible refine c_seq ?_
  with_reducible refine c_seq ?_
  with_reducible refine c_region ?_
  refine stepD rfl F rfl (o_fieldAddr (F.ev rfl) ?_); clear F; clear a; intro a F
  refine stepD rfl F rfl (o_load1 M (F.ev rfl) (by repeat (first | exact .here | apply Has.there)) (by first | assumption | rfl) ?_); clear F; clear a; intro a F
  refine stepD rfl F rfl (o_move (F.ev rfl) ?_); clear F; clear a; intro a F
  refine stepD rfl F rfl (o_leqF (F.ev rfl) (F.ev rfl) (by omega) ?_); clear F; clear a; intro a F
  with_reducible refine l_nil ?_
  with_reducible refine q_then ?_
  refine c_false F rfl rfl ?_
  with_reducible refine c_skip ?_
  with_reducible refine q_then ?_
  with_reducible refine c_seq ?_
  with_reducible refine c_region ?_
  refine stepD rfl F rfl (o_assign (F.ev rfl) ?_); clear F; clear a; intro a F
  with_reducible refine l_nil ?_
  with_reducible refine q_then ?_
  with_reducible refine c_seq ?_
  with_reducible refine c_region ?_
  refine stepD rfl F rfl (o_assign (F.ev rfl) ?_); clear F; clear a; intro a F
  with_reducible refine l_nil ?_
  with_reducible refine q_then ?_
  with_reducible refine c_seq ?_
  with_reducible refine c_seq ?_
  with_reducible refine c_region ?_
  refine stepD rfl F rfl (o_move (F.ev rfl) ?_); clear F; clear a; intro a F
  refine stepD rfl F rfl (o_lenSl (F.ev rfl) ?_); clear F; clear a; intro a F
  refine stepD rfl F rfl (o_move (F.ev rfl) ?_); clear F; clear a; intro a F
  with_reducible refine l_nil ?_
  with_reducible refine q_then ?_
  with_reducible refine c_block ?_
  refine c_loop (fun m a w => ∃ (i : Nat) (placed : Bool) (zs : List OV) (sv : Value) (ent inn : List (Nat × Obj)), m = xs.length - i ∧ i ≤ xs.length ∧ OwnS 58 20 sv zs.length (encL ovC zs) ent ∧ (∀ z ∈ zs, OwnIn inn z) ∧ zs.length ≤ i + pn placed ∧ Pl x.o placed (zs.map (·.o)) (curO ((xs.map (·.o)).take i) now) (curO ((xs.map (·.o)).drop i) now) ∧ Frm a 104 [] [(31, .int .i64 i), (30, .int .i64 xs.length), (29, .slice q xs.length cap), (8, sv), (9, .bool placed), (5, .pointer (some ⟨b5, 0, none⟩)), (1, .int .i64 now)] ∧ Mem [] W w ((b5, .cells (ovC x).toArray 58 (0, 0)) :: (inn ++ ent))) xs.length ⟨0, false, [], _, [], [], rfl, by omega, OwnS.nil _ _, by simp, Nat.zero_le _, by simp [Pl, curO], F.only [31, 30, 29, 8, 9, 5, 1] rfl, M⟩ ?_
  clear F M
  rintro m a w ⟨i, placed, zs, sv, ent, inn, hm', hi, hO, hI, hzl, hP, F, M⟩
  obtain ⟨sp, sc, rfl⟩ := hO.slice
  have hpn := pn_le placed
  by_cases hlt : i < xs.length
  · obtain ⟨b, o, cs, t, fz, rfl, hb, hs⟩ := hm (by omega)
    have hlm : i < (xs.map (·.o)).length := by rw [List.length_map]; exact hlt
    have hct := curO_take (now := now) hlm
    have hcd := curO_drop (now := now) hlm
    rw [List.getElem_map] at hct hcd
    obtain ⟨y, hy0⟩ : ∃ y, y = xs[i] := ⟨_, rfl⟩
    rw [← hy0] at hct hcd
    have hym : y ∈ xs := by rw [hy0]; exact List.getElem_mem hlt
    have hyo := hx y hym
    have hya := hA y hym
    have hyv := validO_len (validL_each hv (List.mem_map_of_mem hym))
    have f1 : seg cs (o + (i : Int).toNat * 20) 20 = some (ovC y) := by rw [hy0]; exact seg_el hle hs hlt (by omega)
    have f2 : (ovC y).length = 20 := ov_len hyo
    have f3 : seg (ovC y) 0 20 = some (ovC y) := of_all hyo.1 _ _
    have f4 : nth (ovC y) 17 = some (.int .i64 y.o.h.til) := of_til hyo.1 _ _
    have f5 : seg (ovC y) 0 16 = some (ipC y.o.h.rt) := of_rt hyo.1 _ _
    have f6 : nth (ovC y) 16 = some (.int .i64 y.o.h.ver) := of_ver hyo.1 _ _
    with_reducible refine c_seq ?_
    with_reducible refine c_region ?_
    refine stepD rfl F rfl (o_lssT (F.ev rfl) (F.ev rfl) (by omega) ?_); clear F; clear a; intro a F
    with_reducible refine l_nil ?_
    with_reducible refine q_then ?_
    with_reducible refine c_seq ?_
    refine c_true F rfl rfl ?_
    with_reducible refine c_skip ?_
    with_reducible refine q_then ?_
    with_reducible refine c_seq ?_
    with_reducible refine c_block ?_
    with_reducible refine c_seq ?_
    with_reducible refine c_region ?_
    refine stepD rfl F rfl (o_indexSl (F.ev rfl) (F.ev rfl) (by omega) (by omega) ?_); clear F; clear a; intro a F
    refine stepD rfl F rfl (o_loadWA M (F.ev rfl) (by assumption) (by first | assumption | rfl) ?_); clear F; clear a; intro a F
    (refine stepD rfl F rfl (o_alloc M ?_); clear F; clear M; intro b11 w M a F)
    (refine stepN rfl F (o_storeA M (F.ev rfl) (F.ev rfl) (f2) (ov_one hya)  (by repeat (first | exact .here | apply Has.there))  (put_all (by rw [f2]; rfl)) (by repeat (first | exact .here | apply Upd.there)) ?_); clear F; clear M; intro w M a F)
    by_cases c5 : y.o.h.til ≤ now
    · rw [if_neg (show ¬ now < y.o.h.til by omega), List.append_nil] at hct
      rw [if_neg (show ¬ now < y.o.h.til by omega), List.nil_append] at hcd
      with_reducible refine l_nil ?_
      with_reducible refine q_then ?_
      with_reducible refine c_seq ?_
      with_reducible refine c_seq ?_
      with_reducible refine c_region ?_
      refine stepD rfl F rfl (o_fieldAddr (F.ev rfl) ?_); clear F; clear a; intro a F
      refine stepD rfl F rfl (o_load1 M (F.ev rfl) (by repeat (first | exact .here | apply Has.there)) (by first | assumption | rfl) ?_); clear F; clear a; intro a F
      refine stepD rfl F rfl (o_move (F.ev rfl) ?_); clear F; clear a; intro a F
      refine stepD rfl F rfl (o_leqT (F.ev rfl) (F.ev rfl) (by omega) ?_); clear F; clear a; intro a F
      with_reducible refine l_nil ?_
      with_reducible refine q_then ?_
      refine c_true F rfl rfl ?_
      with_reducible refine c_exit ?_
      with_reducible refine q_thenX ?_
      with_reducible refine q_inBX ?_
      with_reducible refine q_then ?_
      with_reducible refine c_region ?_
      refine stepD rfl F rfl (o_add (F.ev rfl) (F.ev rfl) (w_i64 (by omega) (by omega)) ?_); clear F; clear a; intro a F
      refine stepD rfl F rfl (o_move (F.ev rfl) ?_); clear F; clear a; intro a F
      with_reducible refine l_nil ?_
      with_reducible refine q_then ?_
      exact ⟨_, by omega, i + 1, placed, zs, _, ent, inn, rfl, by omega, hO, hI, by omega, by rw [hct, ← hcd]; exact hP, F.only [31, 30, 29, 8, 9, 5, 1] rfl, M.sub (.cons _ (.refl _))⟩
    rw [if_pos (show now < y.o.h.til by omega)] at hct hcd
    rw [List.singleton_append] at hcd
    have hac : Asc (y.o :: curO ((xs.map (·.o)).drop (i + 1)) now) := by rw [← hcd]; exact (List.Pairwise.sublist (List.drop_sublist _ _) hasc).filter _
    rw [hcd] at hP
    with_reducible refine l_nil ?_
    with_reducible refine q_then ?_
    with_reducible refine c_seq ?_
    with_reducible refine c_seq ?_
    with_reducible refine c_region ?_
    refine stepD rfl F rfl (o_fieldAddr (F.ev rfl) ?_); clear F; clear a; intro a F
    refine stepD rfl F rfl (o_load1 M (F.ev rfl) (by repeat (first | exact .here | apply Has.there)) (by first | assumption | rfl) ?_); clear F; clear a; intro a F
    refine stepD rfl F rfl (o_move (F.ev rfl) ?_); clear F; clear a; intro a F
    refine stepD rfl F rfl (o_leqF (F.ev rfl) (F.ev rfl) (by omega) ?_); clear F; clear a; intro a F
    with_reducible refine l_nil ?_
    with_reducible refine q_then ?_
    refine c_false F rfl rfl ?_
    with_reducible refine c_skip ?_
    with_reducible refine q_then ?_
    with_reducible refine c_seq ?_
    with_reducible refine c_region ?_
    refine stepD rfl F rfl (o_fieldAddr (F.ev rfl) ?_); clear F; clear a; intro a F
    refine stepD rfl F rfl (o_loadA M (F.ev rfl) (by repeat (first | exact .here | apply Has.there)) (by first | assumption | rfl) ?_); clear F; clear a; intro a F
    refine stepD rfl F rfl (o_fieldAddr (F.ev rfl) ?_); clear F; clear a; intro a F
    refine stepD rfl F rfl (o_loadA M (F.ev rfl) (by repeat (first | exact .here | apply Has.there)) (by first | assumption | rfl) ?_); clear F; clear a; intro a F
    (refine stepD rfl F rfl (o_call (F.ev rfl) (F.evs rfl) (Cal.mono (rcompareIP_c y.o.h.rt x.o.h.rt hyo.1 hxo.1 _) ?_)); clear F; clear a; rintro _ w ⟨rfl, hE⟩ a F; replace M := M.later hE; clear hE)
    cases placed
    · rcases Int.lt_trichotomy (cmpL y.o.h.rt x.o.h.rt) 0 with hk | hk | hk
      · refine stepD rfl F rfl (o_assign (F.ev rfl) ?_); clear F; clear a; intro a F
        with_reducible refine l_nil ?_
        with_reducible refine q_then ?_
        with_reducible refine c_seq ?_
        with_reducible refine c_seq ?_
        with_reducible refine c_region ?_
        refine stepD rfl F rfl (o_move (F.ev rfl) ?_); clear F; clear a; intro a F
        refine stepD rfl F rfl (o_eqlF (F.ev rfl) (F.ev rfl) (by omega) ?_); clear F; clear a; intro a F
        refine stepD rfl F rfl (o_move (F.ev rfl) ?_); clear F; clear a; intro a F
        refine stepOff F rfl rfl rfl rfl ?_; clear F; clear a; intro a F
        refine stepOff F rfl rfl rfl rfl ?_; clear F; clear a; intro a F
        refine stepOff F rfl rfl rfl rfl ?_; clear F; clear a; intro a F
        refine stepOff F rfl rfl rfl rfl ?_; clear F; clear a; intro a F
        refine stepOff F rfl rfl rfl rfl ?_; clear F; clear a; intro a F
        refine stepD rfl F rfl (o_pickF (F.ev rfl) (F.ev rfl) ?_); clear F; clear a; intro a F
        with_reducible refine l_nil ?_
        with_reducible refine q_then ?_
        refine c_false F rfl rfl ?_
        with_reducible refine c_skip ?_
        with_reducible refine q_then ?_
        with_reducible refine c_seq ?_
        with_reducible refine c_seq ?_
        with_reducible refine c_region ?_
        refine stepD rfl F rfl (o_move (F.ev rfl) ?_); clear F; clear a; intro a F
        refine stepD rfl F rfl (o_geqF (F.ev rfl) (F.ev rfl) (by omega) ?_); clear F; clear a; intro a F
        refine stepD rfl F rfl (o_move (F.ev rfl) ?_); clear F; clear a; intro a F
        refine stepOff F rfl rfl rfl rfl ?_; clear F; clear a; intro a F
        refine stepOff F rfl rfl rfl rfl ?_; clear F; clear a; intro a F
        refine stepD rfl F rfl (o_pickF (F.ev rfl) (F.ev rfl) ?_); clear F; clear a; intro a F
        with_reducible refine l_nil ?_
        with_reducible refine q_then ?_
        refine c_false F rfl rfl ?_
        with_reducible refine c_skip ?_
        with_reducible refine q_then ?_
        with_reducible refine c_region ?_
        refine stepD rfl F rfl (o_move (F.ev rfl) ?_); clear F; clear a; intro a F
        refine stepD rfl F rfl (o_loadA M (F.ev rfl) (by repeat (first | exact .here | apply Has.there)) (by first | assumption | rfl) ?_); clear F; clear a; intro a F
        (refine stepD rfl F rfl (o_call (F.ev rfl) (F.evs rfl) (Cal.mono (rcopyV_c y (hyo) (by omega) (by omega) _ (hya.later M.ext) ) ?_)); clear F; clear a; rintro _ w ⟨u1, v1, eu1, ev1, rfl, hA1, hB1, N⟩ a F; replace M := M.joins N; clear N)
        have ho1 : (ovC ⟨y.o, u1, v1⟩).all (·.oneCell') = true := of_one _ _ _ hA1.one hB1.one
        have hl1 : (ovC ⟨y.o, u1, v1⟩).length = 20 := ov_len (x := ⟨y.o, u1, v1⟩) (hyo)
        skip
        (refine stepD rfl F rfl (o_buildSlice F M rfl rfl rfl (of_build1 (hyo).1 u1 v1) ?_); clear F; clear M; intro bs1 w M a F)
        replace M := M.perm (l' := (bs1, .cells (ovC ⟨y.o, u1, v1⟩).toArray 58 (0, 0)) :: (b11, .cells (ovC y).toArray 58 (0, 0)) :: (b5, .cells (ovC x).toArray 58 (0, 0)) :: ((eu1 ++ ev1) ++ (inn ++ ent))) (by classical exact List.perm_iff_count.2 fun _ => by simp only [List.count_append, List.count_cons, List.count_nil, Nat.add_zero, Nat.zero_add] <;> ac_rfl)
        (refine stepD rfl F rfl (o_append hO M (.cons (.cons (.cons (.app (.app .here))))) (F.ev rfl) (F.ev rfl) (SrcOf.cells' (M.heap .here) (sg_all (by omega)) ho1) (by omega) (by omega) ?_); clear F; clear M; clear hO; intro sv1 ent1 w hO M a F)
        replace M := M.sub (.cons _ (.refl _))
        replace hO : OwnS 58 20 sv1 (zs ++ [(⟨y.o, u1, v1⟩ : OV)]).length (encL ovC (zs ++ [(⟨y.o, u1, v1⟩ : OV)])) ent1 := by
          rw [show (zs ++ [(⟨y.o, u1, v1⟩ : OV)]).length = zs.length + 1 by simp, encL_app, encL_one]; exact hO
        have hI1 : ∀ z ∈ zs ++ [(⟨y.o, u1, v1⟩ : OV)], OwnIn ((eu1 ++ ev1) ++ inn) z := by
          intro z hz'
          rcases List.mem_append.1 hz' with h1 | h1
          · exact (hI z h1).mono fun p hp => List.mem_append_right _ hp
          · simp only [List.mem_singleton] at h1
            subst h1
            exact ⟨eu1, ev1, hA1, hB1, fun p hp => by simp [hp], fun p hp => by simp [hp]⟩
        replace M := M.perm (l' := (b11, .cells (ovC y).toArray 58 (0, 0)) :: (b5, .cells (ovC x).toArray 58 (0, 0)) :: (((eu1 ++ ev1) ++ inn) ++ ent1)) (by classical exact List.perm_iff_count.2 fun _ => by simp only [List.count_append, List.count_cons, List.count_nil, Nat.add_zero, Nat.zero_add] <;> ac_rfl)
        have hzn1 : (zs ++ [(⟨y.o, u1, v1⟩ : OV)]).length = zs.length + 1 := by simp
        clear ho1 hl1
        obtain ⟨q1, c1, hsv1⟩ := hO.slice
        refine stepD rfl F rfl (o_assign (F.ev rfl) ?_); clear F; clear a; intro a F
        with_reducible refine l_nil ?_
        with_reducible refine q_inB ?_
        with_reducible refine q_then ?_
        with_reducible refine c_region ?_
        refine stepD rfl F rfl (o_add (F.ev rfl) (F.ev rfl) (w_i64 (by omega) (by omega)) ?_); clear F; clear a; intro a F
        refine stepD rfl F rfl (o_move (F.ev rfl) ?_); clear F; clear a; intro a F
        with_reducible refine l_nil ?_
        with_reducible refine q_then ?_
        exact ⟨_, by omega, i + 1, false, zs ++ [⟨y.o, u1, v1⟩], _, ent1, _, rfl, by omega, hO, hI1, by simp only [pn] at *; omega, by rw [hct, List.map_append]; exact hP.lo hk, F.only [31, 30, 29, 8, 9, 5, 1] rfl, M.sub (.cons _ (.refl _))⟩
      · by_cases c6 : x.o.h.ver < y.o.h.ver
        · have hacc := hfl none (by
            have := hP.stale hk c6
            rw [← hcd] at this
            rw [← this]
            congr 1
            unfold curO
            rw [← List.filter_append, List.take_append_drop])
          rw [hacc]
          refine stepD rfl F rfl (o_assign (F.ev rfl) ?_); clear F; clear a; intro a F
          with_reducible refine l_nil ?_
          with_reducible refine q_then ?_
          with_reducible refine c_seq ?_
          with_reducible refine c_seq ?_
          with_reducible refine c_region ?_
          refine stepD rfl F rfl (o_move (F.ev rfl) ?_); clear F; clear a; intro a F
          refine stepD rfl F rfl (o_eqlT (F.ev rfl) (F.ev rfl) (by omega) ?_); clear F; clear a; intro a F
          refine stepD rfl F rfl (o_move (F.ev rfl) ?_); clear F; clear a; intro a F
          refine stepG rfl F rfl rfl rfl (o_fieldAddr (F.ev rfl) ?_); clear F; clear a; intro a F
          refine stepG rfl F rfl rfl rfl (o_load1 M (F.ev rfl) (by repeat (first | exact .here | apply Has.there)) (by first | assumption | rfl) ?_); clear F; clear a; intro a F
          refine stepG rfl F rfl rfl rfl (o_fieldAddr (F.ev rfl) ?_); clear F; clear a; intro a F
          refine stepG rfl F rfl rfl rfl (o_load1 M (F.ev rfl) (by repeat (first | exact .here | apply Has.there)) (by first | assumption | rfl) ?_); clear F; clear a; intro a F
          refine stepG rfl F rfl rfl rfl (o_gtrT (F.ev rfl) (F.ev rfl) (by omega) ?_); clear F; clear a; intro a F
          refine stepD rfl F rfl (o_pickT (F.ev rfl) (F.ev rfl) ?_); clear F; clear a; intro a F
          with_reducible refine l_nil ?_
          with_reducible refine q_then ?_
          refine c_true F rfl rfl ?_
          with_reducible refine c_seq ?_
          with_reducible refine c_region ?_
          refine stepD rfl F rfl (o_assign (F.ev rfl) ?_); clear F; clear a; intro a F
          refine stepD rfl F rfl (o_assign (F.ev rfl) ?_); clear F; clear a; intro a F
          with_reducible refine l_nil ?_
          with_reducible refine q_then ?_
          with_reducible refine c_ret ?_
          with_reducible refine q_thenR ?_
          with_reducible refine q_inBR ?_
          with_reducible refine q_thenR ?_
          with_reducible refine q_thenR ?_
          with_reducible refine q_inBR ?_
          with_reducible refine q_thenR ?_
          refine p_ret F rfl (.cons (.tmp (F.ev rfl)) (.cons (.tmp (F.ev rfl)) .nil)) ?_
          exact ⟨_, rfl, OffsN.nil _ _, M.ext⟩
        · by_cases c7 : y.o.h.ver = x.o.h.ver
          · refine stepD rfl F rfl (o_assign (F.ev rfl) ?_); clear F; clear a; intro a F
            with_reducible refine l_nil ?_
            with_reducible refine q_then ?_
            with_reducible refine c_seq ?_
            with_reducible refine c_seq ?_
            with_reducible refine c_region ?_
            refine stepD rfl F rfl (o_move (F.ev rfl) ?_); clear F; clear a; intro a F
            refine stepD rfl F rfl (o_eqlT (F.ev rfl) (F.ev rfl) (by omega) ?_); clear F; clear a; intro a F
            refine stepD rfl F rfl (o_move (F.ev rfl) ?_); clear F; clear a; intro a F
            refine stepG rfl F rfl rfl rfl (o_fieldAddr (F.ev rfl) ?_); clear F; clear a; intro a F
            refine stepG rfl F rfl rfl rfl (o_load1 M (F.ev rfl) (by repeat (first | exact .here | apply Has.there)) (by first | assumption | rfl) ?_); clear F; clear a; intro a F
            refine stepG rfl F rfl rfl rfl (o_fieldAddr (F.ev rfl) ?_); clear F; clear a; intro a F
            refine stepG rfl F rfl rfl rfl (o_load1 M (F.ev rfl) (by repeat (first | exact .here | apply Has.there)) (by first | assumption | rfl) ?_); clear F; clear a; intro a F
            refine stepG rfl F rfl rfl rfl (o_gtrF (F.ev rfl) (F.ev rfl) (by omega) ?_); clear F; clear a; intro a F
            refine stepD rfl F rfl (o_pickT (F.ev rfl) (F.ev rfl) ?_); clear F; clear a; intro a F
            with_reducible refine l_nil ?_
            with_reducible refine q_then ?_
            refine c_false F rfl rfl ?_
            with_reducible refine c_skip ?_
            with_reducible refine q_then ?_
            with_reducible refine c_seq ?_
            with_reducible refine c_seq ?_
            with_reducible refine c_region ?_
            refine stepD rfl F rfl (o_move (F.ev rfl) ?_); clear F; clear a; intro a F
            refine stepD rfl F rfl (o_geqT (F.ev rfl) (F.ev rfl) (by omega) ?_); clear F; clear a; intro a F
            refine stepD rfl F rfl (o_move (F.ev rfl) ?_); clear F; clear a; intro a F
            refine stepG rfl F rfl rfl rfl (o_move (F.ev rfl) ?_); clear F; clear a; intro a F
            refine stepG rfl F rfl rfl rfl (o_not (F.ev rfl) ?_); clear F; clear a; intro a F
            refine stepD rfl F rfl (o_pickT (F.ev rfl) (F.ev rfl) ?_); clear F; clear a; intro a F
            with_reducible refine l_nil ?_
            with_reducible refine q_then ?_
            refine c_true F rfl rfl ?_
            with_reducible refine c_seq ?_
            with_reducible refine c_region ?_
            refine stepD rfl F rfl (o_assign (F.ev rfl) ?_); clear F; clear a; intro a F
            with_reducible refine l_nil ?_
            with_reducible refine q_then ?_
            with_reducible refine c_seq ?_
            with_reducible refine c_seq ?_
            with_reducible refine c_region ?_
            refine stepD rfl F rfl (o_move (F.ev rfl) ?_); clear F; clear a; intro a F
            refine stepD rfl F rfl (o_eqlT (F.ev rfl) (F.ev rfl) (by omega) ?_); clear F; clear a; intro a F
            refine stepD rfl F rfl (o_move (F.ev rfl) ?_); clear F; clear a; intro a F
            refine stepG rfl F rfl rfl rfl (o_fieldAddr (F.ev rfl) ?_); clear F; clear a; intro a F
            refine stepG rfl F rfl rfl rfl (o_load1 M (F.ev rfl) (by repeat (first | exact .here | apply Has.there)) (by first | assumption | rfl) ?_); clear F; clear a; intro a F
            refine stepG rfl F rfl rfl rfl (o_fieldAddr (F.ev rfl) ?_); clear F; clear a; intro a F
            refine stepG rfl F rfl rfl rfl (o_load1 M (F.ev rfl) (by repeat (first | exact .here | apply Has.there)) (by first | assumption | rfl) ?_); clear F; clear a; intro a F
            refine stepG rfl F rfl rfl rfl (o_eqlT (F.ev rfl) (F.ev rfl) (by omega) ?_); clear F; clear a; intro a F
            refine stepD rfl F rfl (o_pickT (F.ev rfl) (F.ev rfl) ?_); clear F; clear a; intro a F
            with_reducible refine l_nil ?_
            with_reducible refine q_then ?_
            refine c_true F rfl rfl ?_
            with_reducible refine c_seq ?_
            with_reducible refine c_region ?_
            refine stepD rfl F rfl (o_loadA M (F.ev rfl) (by repeat (first | exact .here | apply Has.there)) (by first | assumption | rfl) ?_); clear F; clear a; intro a F
            (refine stepD rfl F rfl (o_call (F.ev rfl) (F.evs rfl) (Cal.mono (rcopyV_c y (hyo) (by omega) (by omega) _ (hya.later M.ext) ) ?_)); clear F; clear a; rintro _ w ⟨u1, v1, eu1, ev1, rfl, hA1, hB1, N⟩ a F; replace M := M.joins N; clear N)
            have ho1 : (ovC ⟨y.o, u1, v1⟩).all (·.oneCell') = true := of_one _ _ _ hA1.one hB1.one
            have hl1 : (ovC ⟨y.o, u1, v1⟩).length = 20 := ov_len (x := ⟨y.o, u1, v1⟩) (hyo)
            skip
            replace M := M.perm (l' := (b11, .cells (ovC y).toArray 58 (0, 0)) :: (b5, .cells (ovC x).toArray 58 (0, 0)) :: ((eu1 ++ ev1) ++ (inn ++ ent))) (by classical exact List.perm_iff_count.2 fun _ => by simp only [List.count_append, List.count_cons, List.count_nil, Nat.add_zero, Nat.zero_add] <;> ac_rfl)
            have hpt : put (ovC ⟨y.o, u1, v1⟩) 17 [.int .i64 (if y.o.h.til < x.o.h.til then x.o.h.til else y.o.h.til)] = some (ovC ⟨later2 y.o x.o, u1, v1⟩) := of_put_til hyo.1 u1 v1 _
            have hlo : IsOff (later2 y.o x.o) := ⟨hyo.1, hyo.2⟩
            have hal : seg (ovC ⟨later2 y.o x.o, u1, v1⟩) 0 20 = some (ovC ⟨later2 y.o x.o, u1, v1⟩) := of_all hlo.1 _ _
            (refine stepD rfl F rfl (o_alloc M ?_); clear F; clear M; intro b13 w M a F)
            (refine stepN rfl F (o_storeA M (F.ev rfl) (F.ev rfl) (hl1) ho1  (by repeat (first | exact .here | apply Has.there))  (put_all (by rw [hl1]; rfl)) (by repeat (first | exact .here | apply Upd.there)) ?_); clear F; clear M; intro w M a F)
            with_reducible refine l_nil ?_
            with_reducible refine q_then ?_
            with_reducible refine c_seq ?_
            with_reducible refine c_region ?_
            refine stepD rfl F rfl (o_fieldAddr (F.ev rfl) ?_); clear F; clear a; intro a F
            refine stepD rfl F rfl (o_load1 M (F.ev rfl) (by repeat (first | exact .here | apply Has.there)) (by first | assumption | rfl) ?_); clear F; clear a; intro a F
            refine stepD rfl F rfl (o_fieldAddr (F.ev rfl) ?_); clear F; clear a; intro a F
            refine stepD rfl F rfl (o_load1 M (F.ev rfl) (by repeat (first | exact .here | apply Has.there)) (by first | assumption | rfl) ?_); clear F; clear a; intro a F
            refine stepD rfl F rfl (o_max (F.ev rfl) (F.ev rfl) ?_); clear F; clear a; intro a F
            refine stepD rfl F rfl (o_fieldAddr (F.ev rfl) ?_); clear F; clear a; intro a F
            (refine stepN rfl F (o_store1 M (F.ev rfl) (F.ev rfl) rfl (by repeat (first | exact .here | apply Has.there)) (hpt) (by repeat (first | exact .here | apply Upd.there)) ?_); clear F; clear M; intro w M a F)
            replace ho1 : (ovC ⟨later2 y.o x.o, u1, v1⟩).all (·.oneCell') = true := of_one _ _ _ hA1.one hB1.one
            replace hl1 : (ovC ⟨later2 y.o x.o, u1, v1⟩).length = 20 := ov_len (x := ⟨later2 y.o x.o, u1, v1⟩) hlo
            with_reducible refine l_nil ?_
            with_reducible refine q_then ?_
            with_reducible refine c_seq ?_
            with_reducible refine c_region ?_
            refine stepD rfl F rfl (o_move (F.ev rfl) ?_); clear F; clear a; intro a F
            refine stepD rfl F rfl (o_loadA M (F.ev rfl) (by repeat (first | exact .here | apply Has.there)) (by first | assumption | rfl) ?_); clear F; clear a; intro a F
            (refine stepD rfl F rfl (o_buildSlice F M rfl rfl rfl (of_build1 (hlo).1 u1 v1) ?_); clear F; clear M; intro bs1 w M a F)
            replace M := M.perm (l' := (bs1, .cells (ovC ⟨later2 y.o x.o, u1, v1⟩).toArray 58 (0, 0)) :: (b13, .cells (ovC ⟨later2 y.o x.o, u1, v1⟩).toArray 58 (0, 0)) :: (b11, .cells (ovC y).toArray 58 (0, 0)) :: (b5, .cells (ovC x).toArray 58 (0, 0)) :: ((eu1 ++ ev1) ++ (inn ++ ent))) (by classical exact List.perm_iff_count.2 fun _ => by simp only [List.count_append, List.count_cons, List.count_nil, Nat.add_zero, Nat.zero_add] <;> ac_rfl)
            (refine stepD rfl F rfl (o_append hO M (.cons (.cons (.cons (.cons (.app (.app .here)))))) (F.ev rfl) (F.ev rfl) (SrcOf.cells' (M.heap .here) (sg_all (by omega)) ho1) (by omega) (by omega) ?_); clear F; clear M; clear hO; intro sv1 ent1 w hO M a F)
            replace M := M.sub (.cons _ (.refl _))
            replace hO : OwnS 58 20 sv1 (zs ++ [(⟨later2 y.o x.o, u1, v1⟩ : OV)]).length (encL ovC (zs ++ [(⟨later2 y.o x.o, u1, v1⟩ : OV)])) ent1 := by
              rw [show (zs ++ [(⟨later2 y.o x.o, u1, v1⟩ : OV)]).length = zs.length + 1 by simp, encL_app, encL_one]; exact hO
            have hI1 : ∀ z ∈ zs ++ [(⟨later2 y.o x.o, u1, v1⟩ : OV)], OwnIn ((eu1 ++ ev1) ++ inn) z := by
              intro z hz'
              rcases List.mem_append.1 hz' with h1 | h1
              · exact (hI z h1).mono fun p hp => List.mem_append_right _ hp
              · simp only [List.mem_singleton] at h1
                subst h1
                exact ⟨eu1, ev1, hA1, hB1, fun p hp => by simp [hp], fun p hp => by simp [hp]⟩
            replace M := M.perm (l' := (b13, .cells (ovC ⟨later2 y.o x.o, u1, v1⟩).toArray 58 (0, 0)) :: (b11, .cells (ovC y).toArray 58 (0, 0)) :: (b5, .cells (ovC x).toArray 58 (0, 0)) :: (((eu1 ++ ev1) ++ inn) ++ ent1)) (by classical exact List.perm_iff_count.2 fun _ => by simp only [List.count_append, List.count_cons, List.count_nil, Nat.add_zero, Nat.zero_add] <;> ac_rfl)
            have hzn1 : (zs ++ [(⟨later2 y.o x.o, u1, v1⟩ : OV)]).length = zs.length + 1 := by simp
            clear ho1 hl1
            obtain ⟨q1, c1, hsv1⟩ := hO.slice
            refine stepD rfl F rfl (o_assign (F.ev rfl) ?_); clear F; clear a; intro a F
            with_reducible refine l_nil ?_
            with_reducible refine q_then ?_
            with_reducible refine c_exit ?_
            with_reducible refine q_thenX ?_
            with_reducible refine q_thenX ?_
            with_reducible refine q_inBX ?_
            with_reducible refine q_then ?_
            with_reducible refine c_region ?_
            refine stepD rfl F rfl (o_add (F.ev rfl) (F.ev rfl) (w_i64 (by omega) (by omega)) ?_); clear F; clear a; intro a F
            refine stepD rfl F rfl (o_move (F.ev rfl) ?_); clear F; clear a; intro a F
            with_reducible refine l_nil ?_
            with_reducible refine q_then ?_
            exact ⟨_, by omega, i + 1, true, zs ++ [⟨later2 y.o x.o, u1, v1⟩], _, ent1, _, rfl, by omega, hO, hI1, by simp only [pn] at *; omega, by rw [hct, List.map_append]; exact hP.same hac hk c7, F.only [31, 30, 29, 8, 9, 5, 1] rfl, M.sub (.cons _ (.cons _ (.refl _)))⟩
          · refine stepD rfl F rfl (o_assign (F.ev rfl) ?_); clear F; clear a; intro a F
            with_reducible refine l_nil ?_
            with_reducible refine q_then ?_
            with_reducible refine c_seq ?_
            with_reducible refine c_seq ?_
            with_reducible refine c_region ?_
            refine stepD rfl F rfl (o_move (F.ev rfl) ?_); clear F; clear a; intro a F
            refine stepD rfl F rfl (o_eqlT (F.ev rfl) (F.ev rfl) (by omega) ?_); clear F; clear a; intro a F
            refine stepD rfl F rfl (o_move (F.ev rfl) ?_); clear F; clear a; intro a F
            refine stepG rfl F rfl rfl rfl (o_fieldAddr (F.ev rfl) ?_); clear F; clear a; intro a F
            refine stepG rfl F rfl rfl rfl (o_load1 M (F.ev rfl) (by repeat (first | exact .here | apply Has.there)) (by first | assumption | rfl) ?_); clear F; clear a; intro a F
            refine stepG rfl F rfl rfl rfl (o_fieldAddr (F.ev rfl) ?_); clear F; clear a; intro a F
            refine stepG rfl F rfl rfl rfl (o_load1 M (F.ev rfl) (by repeat (first | exact .here | apply Has.there)) (by first | assumption | rfl) ?_); clear F; clear a; intro a F
            refine stepG rfl F rfl rfl rfl (o_gtrF (F.ev rfl) (F.ev rfl) (by omega) ?_); clear F; clear a; intro a F
            refine stepD rfl F rfl (o_pickT (F.ev rfl) (F.ev rfl) ?_); clear F; clear a; intro a F
            with_reducible refine l_nil ?_
            with_reducible refine q_then ?_
            refine c_false F rfl rfl ?_
            with_reducible refine c_skip ?_
            with_reducible refine q_then ?_
            with_reducible refine c_seq ?_
            with_reducible refine c_seq ?_
            with_reducible refine c_region ?_
            refine stepD rfl F rfl (o_move (F.ev rfl) ?_); clear F; clear a; intro a F
            refine stepD rfl F rfl (o_geqT (F.ev rfl) (F.ev rfl) (by omega) ?_); clear F; clear a; intro a F
            refine stepD rfl F rfl (o_move (F.ev rfl) ?_); clear F; clear a; intro a F
            refine stepG rfl F rfl rfl rfl (o_move (F.ev rfl) ?_); clear F; clear a; intro a F
            refine stepG rfl F rfl rfl rfl (o_not (F.ev rfl) ?_); clear F; clear a; intro a F
            refine stepD rfl F rfl (o_pickT (F.ev rfl) (F.ev rfl) ?_); clear F; clear a; intro a F
            with_reducible refine l_nil ?_
            with_reducible refine q_then ?_
            refine c_true F rfl rfl ?_
            with_reducible refine c_seq ?_
            with_reducible refine c_region ?_
            refine stepD rfl F rfl (o_assign (F.ev rfl) ?_); clear F; clear a; intro a F
            with_reducible refine l_nil ?_
            with_reducible refine q_then ?_
            with_reducible refine c_seq ?_
            with_reducible refine c_seq ?_
            with_reducible refine c_region ?_
            refine stepD rfl F rfl (o_move (F.ev rfl) ?_); clear F; clear a; intro a F
            refine stepD rfl F rfl (o_eqlT (F.ev rfl) (F.ev rfl) (by omega) ?_); clear F; clear a; intro a F
            refine stepD rfl F rfl (o_move (F.ev rfl) ?_); clear F; clear a; intro a F
            refine stepG rfl F rfl rfl rfl (o_fieldAddr (F.ev rfl) ?_); clear F; clear a; intro a F
            refine stepG rfl F rfl rfl rfl (o_load1 M (F.ev rfl) (by repeat (first | exact .here | apply Has.there)) (by first | assumption | rfl) ?_); clear F; clear a; intro a F
            refine stepG rfl F rfl rfl rfl (o_fieldAddr (F.ev rfl) ?_); clear F; clear a; intro a F
            refine stepG rfl F rfl rfl rfl (o_load1 M (F.ev rfl) (by repeat (first | exact .here | apply Has.there)) (by first | assumption | rfl) ?_); clear F; clear a; intro a F
            refine stepG rfl F rfl rfl rfl (o_eqlF (F.ev rfl) (F.ev rfl) (by omega) ?_); clear F; clear a; intro a F
            refine stepD rfl F rfl (o_pickT (F.ev rfl) (F.ev rfl) ?_); clear F; clear a; intro a F
            with_reducible refine l_nil ?_
            with_reducible refine q_then ?_
            refine c_false F rfl rfl ?_
            with_reducible refine c_skip ?_
            with_reducible refine q_then ?_
            with_reducible refine c_seq ?_
            with_reducible refine c_region ?_
            refine stepD rfl F rfl (o_move (F.ev rfl) ?_); clear F; clear a; intro a F
            refine stepD rfl F rfl (o_loadA M (F.ev rfl) (by repeat (first | exact .here | apply Has.there)) (by first | assumption | rfl) ?_); clear F; clear a; intro a F
            (refine stepD rfl F rfl (o_call (F.ev rfl) (F.evs rfl) (Cal.mono (rcopyV_c x (hxo) (by omega) (by omega) _ (hxa.later M.ext) ) ?_)); clear F; clear a; rintro _ w ⟨u1, v1, eu1, ev1, rfl, hA1, hB1, N⟩ a F; replace M := M.joins N; clear N)
            have ho1 : (ovC ⟨x.o, u1, v1⟩).all (·.oneCell') = true := of_one _ _ _ hA1.one hB1.one
            have hl1 : (ovC ⟨x.o, u1, v1⟩).length = 20 := ov_len (x := ⟨x.o, u1, v1⟩) (hxo)
            skip
            (refine stepD rfl F rfl (o_buildSlice F M rfl rfl rfl (of_build1 (hxo).1 u1 v1) ?_); clear F; clear M; intro bs1 w M a F)
            replace M := M.perm (l' := (bs1, .cells (ovC ⟨x.o, u1, v1⟩).toArray 58 (0, 0)) :: (b11, .cells (ovC y).toArray 58 (0, 0)) :: (b5, .cells (ovC x).toArray 58 (0, 0)) :: ((eu1 ++ ev1) ++ (inn ++ ent))) (by classical exact List.perm_iff_count.2 fun _ => by simp only [List.count_append, List.count_cons, List.count_nil, Nat.add_zero, Nat.zero_add] <;> ac_rfl)
            (refine stepD rfl F rfl (o_append hO M (.cons (.cons (.cons (.app (.app .here))))) (F.ev rfl) (F.ev rfl) (SrcOf.cells' (M.heap .here) (sg_all (by omega)) ho1) (by omega) (by omega) ?_); clear F; clear M; clear hO; intro sv1 ent1 w hO M a F)
            replace M := M.sub (.cons _ (.refl _))
            replace hO : OwnS 58 20 sv1 (zs ++ [(⟨x.o, u1, v1⟩ : OV)]).length (encL ovC (zs ++ [(⟨x.o, u1, v1⟩ : OV)])) ent1 := by
              rw [show (zs ++ [(⟨x.o, u1, v1⟩ : OV)]).length = zs.length + 1 by simp, encL_app, encL_one]; exact hO
            have hI1 : ∀ z ∈ zs ++ [(⟨x.o, u1, v1⟩ : OV)], OwnIn ((eu1 ++ ev1) ++ inn) z := by
              intro z hz'
              rcases List.mem_append.1 hz' with h1 | h1
              · exact (hI z h1).mono fun p hp => List.mem_append_right _ hp
              · simp only [List.mem_singleton] at h1
                subst h1
                exact ⟨eu1, ev1, hA1, hB1, fun p hp => by simp [hp], fun p hp => by simp [hp]⟩
            replace M := M.perm (l' := (b11, .cells (ovC y).toArray 58 (0, 0)) :: (b5, .cells (ovC x).toArray 58 (0, 0)) :: (((eu1 ++ ev1) ++ inn) ++ ent1)) (by classical exact List.perm_iff_count.2 fun _ => by simp only [List.count_append, List.count_cons, List.count_nil, Nat.add_zero, Nat.zero_add] <;> ac_rfl)
            have hzn1 : (zs ++ [(⟨x.o, u1, v1⟩ : OV)]).length = zs.length + 1 := by simp
            clear ho1 hl1
            obtain ⟨q1, c1, hsv1⟩ := hO.slice
            refine stepD rfl F rfl (o_assign (F.ev rfl) ?_); clear F; clear a; intro a F
            with_reducible refine l_nil ?_
            with_reducible refine q_then ?_
            with_reducible refine c_seq ?_
            with_reducible refine c_region ?_
            refine stepD rfl F rfl (o_move (F.ev rfl) ?_); clear F; clear a; intro a F
            refine stepD rfl F rfl (o_eqlT (F.ev rfl) (F.ev rfl) (by omega) ?_); clear F; clear a; intro a F
            with_reducible refine l_nil ?_
            with_reducible refine q_then ?_
            refine c_true F rfl rfl ?_
            with_reducible refine c_exit ?_
            with_reducible refine q_thenX ?_
            with_reducible refine q_inBX ?_
            with_reducible refine q_then ?_
            with_reducible refine c_region ?_
            refine stepD rfl F rfl (o_add (F.ev rfl) (F.ev rfl) (w_i64 (by omega) (by omega)) ?_); clear F; clear a; intro a F
            refine stepD rfl F rfl (o_move (F.ev rfl) ?_); clear F; clear a; intro a F
            with_reducible refine l_nil ?_
            with_reducible refine q_then ?_
            exact ⟨_, by omega, i + 1, true, zs ++ [⟨x.o, u1, v1⟩], _, ent1, _, rfl, by omega, hO, hI1, by simp only [pn] at *; omega, by rw [hct, List.map_append]; exact hP.new hac hk c6 c7, F.only [31, 30, 29, 8, 9, 5, 1] rfl, M.sub (.cons _ (.refl _))⟩
      · refine stepD rfl F rfl (o_assign (F.ev rfl) ?_); clear F; clear a; intro a F
        with_reducible refine l_nil ?_
        with_reducible refine q_then ?_
        with_reducible refine c_seq ?_
        with_reducible refine c_seq ?_
        with_reducible refine c_region ?_
        refine stepD rfl F rfl (o_move (F.ev rfl) ?_); clear F; clear a; intro a F
        refine stepD rfl F rfl (o_eqlF (F.ev rfl) (F.ev rfl) (by omega) ?_); clear F; clear a; intro a F
        refine stepD rfl F rfl (o_move (F.ev rfl) ?_); clear F; clear a; intro a F
        refine stepOff F rfl rfl rfl rfl ?_; clear F; clear a; intro a F
        refine stepOff F rfl rfl rfl rfl ?_; clear F; clear a; intro a F
        refine stepOff F rfl rfl rfl rfl ?_; clear F; clear a; intro a F
        refine stepOff F rfl rfl rfl rfl ?_; clear F; clear a; intro a F
        refine stepOff F rfl rfl rfl rfl ?_; clear F; clear a; intro a F
        refine stepD rfl F rfl (o_pickF (F.ev rfl) (F.ev rfl) ?_); clear F; clear a; intro a F
        with_reducible refine l_nil ?_
        with_reducible refine q_then ?_
        refine c_false F rfl rfl ?_
        with_reducible refine c_skip ?_
        with_reducible refine q_then ?_
        with_reducible refine c_seq ?_
        with_reducible refine c_seq ?_
        with_reducible refine c_region ?_
        refine stepD rfl F rfl (o_move (F.ev rfl) ?_); clear F; clear a; intro a F
        refine stepD rfl F rfl (o_geqT (F.ev rfl) (F.ev rfl) (by omega) ?_); clear F; clear a; intro a F
        refine stepD rfl F rfl (o_move (F.ev rfl) ?_); clear F; clear a; intro a F
        refine stepG rfl F rfl rfl rfl (o_move (F.ev rfl) ?_); clear F; clear a; intro a F
        refine stepG rfl F rfl rfl rfl (o_not (F.ev rfl) ?_); clear F; clear a; intro a F
        refine stepD rfl F rfl (o_pickT (F.ev rfl) (F.ev rfl) ?_); clear F; clear a; intro a F
        with_reducible refine l_nil ?_
        with_reducible refine q_then ?_
        refine c_true F rfl rfl ?_
        with_reducible refine c_seq ?_
        with_reducible refine c_region ?_
        refine stepD rfl F rfl (o_assign (F.ev rfl) ?_); clear F; clear a; intro a F
        with_reducible refine l_nil ?_
        with_reducible refine q_then ?_
        with_reducible refine c_seq ?_
        with_reducible refine c_seq ?_
        with_reducible refine c_region ?_
        refine stepD rfl F rfl (o_move (F.ev rfl) ?_); clear F; clear a; intro a F
        refine stepD rfl F rfl (o_eqlF (F.ev rfl) (F.ev rfl) (by omega) ?_); clear F; clear a; intro a F
        refine stepD rfl F rfl (o_move (F.ev rfl) ?_); clear F; clear a; intro a F
        refine stepOff F rfl rfl rfl rfl ?_; clear F; clear a; intro a F
        refine stepOff F rfl rfl rfl rfl ?_; clear F; clear a; intro a F
        refine stepOff F rfl rfl rfl rfl ?_; clear F; clear a; intro a F
        refine stepOff F rfl rfl rfl rfl ?_; clear F; clear a; intro a F
        refine stepOff F rfl rfl rfl rfl ?_; clear F; clear a; intro a F
        refine stepD rfl F rfl (o_pickF (F.ev rfl) (F.ev rfl) ?_); clear F; clear a; intro a F
        with_reducible refine l_nil ?_
        with_reducible refine q_then ?_
        refine c_false F rfl rfl ?_
        with_reducible refine c_skip ?_
        with_reducible refine q_then ?_
        with_reducible refine c_seq ?_
        with_reducible refine c_region ?_
        refine stepD rfl F rfl (o_move (F.ev rfl) ?_); clear F; clear a; intro a F
        refine stepD rfl F rfl (o_loadA M (F.ev rfl) (by repeat (first | exact .here | apply Has.there)) (by first | assumption | rfl) ?_); clear F; clear a; intro a F
        (refine stepD rfl F rfl (o_call (F.ev rfl) (F.evs rfl) (Cal.mono (rcopyV_c x (hxo) (by omega) (by omega) _ (hxa.later M.ext) ) ?_)); clear F; clear a; rintro _ w ⟨u1, v1, eu1, ev1, rfl, hA1, hB1, N⟩ a F; replace M := M.joins N; clear N)
        have ho1 : (ovC ⟨x.o, u1, v1⟩).all (·.oneCell') = true := of_one _ _ _ hA1.one hB1.one
        have hl1 : (ovC ⟨x.o, u1, v1⟩).length = 20 := ov_len (x := ⟨x.o, u1, v1⟩) (hxo)
        skip
        (refine stepD rfl F rfl (o_buildSlice F M rfl rfl rfl (of_build1 (hxo).1 u1 v1) ?_); clear F; clear M; intro bs1 w M a F)
        replace M := M.perm (l' := (bs1, .cells (ovC ⟨x.o, u1, v1⟩).toArray 58 (0, 0)) :: (b11, .cells (ovC y).toArray 58 (0, 0)) :: (b5, .cells (ovC x).toArray 58 (0, 0)) :: ((eu1 ++ ev1) ++ (inn ++ ent))) (by classical exact List.perm_iff_count.2 fun _ => by simp only [List.count_append, List.count_cons, List.count_nil, Nat.add_zero, Nat.zero_add] <;> ac_rfl)
        (refine stepD rfl F rfl (o_append hO M (.cons (.cons (.cons (.app (.app .here))))) (F.ev rfl) (F.ev rfl) (SrcOf.cells' (M.heap .here) (sg_all (by omega)) ho1) (by omega) (by omega) ?_); clear F; clear M; clear hO; intro sv1 ent1 w hO M a F)
        replace M := M.sub (.cons _ (.refl _))
        replace hO : OwnS 58 20 sv1 (zs ++ [(⟨x.o, u1, v1⟩ : OV)]).length (encL ovC (zs ++ [(⟨x.o, u1, v1⟩ : OV)])) ent1 := by
          rw [show (zs ++ [(⟨x.o, u1, v1⟩ : OV)]).length = zs.length + 1 by simp, encL_app, encL_one]; exact hO
        have hI1 : ∀ z ∈ zs ++ [(⟨x.o, u1, v1⟩ : OV)], OwnIn ((eu1 ++ ev1) ++ inn) z := by
          intro z hz'
          rcases List.mem_append.1 hz' with h1 | h1
          · exact (hI z h1).mono fun p hp => List.mem_append_right _ hp
          · simp only [List.mem_singleton] at h1
            subst h1
            exact ⟨eu1, ev1, hA1, hB1, fun p hp => by simp [hp], fun p hp => by simp [hp]⟩
        replace M := M.perm (l' := (b11, .cells (ovC y).toArray 58 (0, 0)) :: (b5, .cells (ovC x).toArray 58 (0, 0)) :: (((eu1 ++ ev1) ++ inn) ++ ent1)) (by classical exact List.perm_iff_count.2 fun _ => by simp only [List.count_append, List.count_cons, List.count_nil, Nat.add_zero, Nat.zero_add] <;> ac_rfl)
        have hzn1 : (zs ++ [(⟨x.o, u1, v1⟩ : OV)]).length = zs.length + 1 := by simp
        clear ho1 hl1
        obtain ⟨q1, c1, hsv1⟩ := hO.slice
        subst hsv1
        refine stepD rfl F rfl (o_assign (F.ev rfl) ?_); clear F; clear a; intro a F
        with_reducible refine l_nil ?_
        with_reducible refine q_then ?_
        with_reducible refine c_seq ?_
        with_reducible refine c_region ?_
        refine stepD rfl F rfl (o_move (F.ev rfl) ?_); clear F; clear a; intro a F
        refine stepD rfl F rfl (o_eqlF (F.ev rfl) (F.ev rfl) (by omega) ?_); clear F; clear a; intro a F
        with_reducible refine l_nil ?_
        with_reducible refine q_then ?_
        refine c_false F rfl rfl ?_
        with_reducible refine c_skip ?_
        with_reducible refine q_then ?_
        with_reducible refine c_region ?_
        refine stepD rfl F rfl (o_move (F.ev rfl) ?_); clear F; clear a; intro a F
        refine stepD rfl F rfl (o_loadA M (F.ev rfl) (by repeat (first | exact .here | apply Has.there)) (by first | assumption | rfl) ?_); clear F; clear a; intro a F
        (refine stepD rfl F rfl (o_call (F.ev rfl) (F.evs rfl) (Cal.mono (rcopyV_c y (hyo) (by omega) (by omega) _ (hya.later M.ext) ) ?_)); clear F; clear a; rintro _ w ⟨u2, v2, eu2, ev2, rfl, hA2, hB2, N⟩ a F; replace M := M.joins N; clear N)
        have ho2 : (ovC ⟨y.o, u2, v2⟩).all (·.oneCell') = true := of_one _ _ _ hA2.one hB2.one
        have hl2 : (ovC ⟨y.o, u2, v2⟩).length = 20 := ov_len (x := ⟨y.o, u2, v2⟩) (hyo)
        skip
        (refine stepD rfl F rfl (o_buildSlice F M rfl rfl rfl (of_build1 (hyo).1 u2 v2) ?_); clear F; clear M; intro bs2 w M a F)
        replace M := M.perm (l' := (bs2, .cells (ovC ⟨y.o, u2, v2⟩).toArray 58 (0, 0)) :: (b11, .cells (ovC y).toArray 58 (0, 0)) :: (b5, .cells (ovC x).toArray 58 (0, 0)) :: ((eu2 ++ ev2) ++ (((eu1 ++ ev1) ++ inn) ++ ent1))) (by classical exact List.perm_iff_count.2 fun _ => by simp only [List.count_append, List.count_cons, List.count_nil, Nat.add_zero, Nat.zero_add] <;> ac_rfl)
        (refine stepD rfl F rfl (o_append hO M (.cons (.cons (.cons (.app (.app .here))))) (F.ev rfl) (F.ev rfl) (SrcOf.cells' (M.heap .here) (sg_all (by omega)) ho2) (by omega) (by omega) ?_); clear F; clear M; clear hO; intro sv2 ent2 w hO M a F)
        replace M := M.sub (.cons _ (.refl _))
        replace hO : OwnS 58 20 sv2 ((zs ++ [(⟨x.o, u1, v1⟩ : OV)]) ++ [(⟨y.o, u2, v2⟩ : OV)]).length (encL ovC ((zs ++ [(⟨x.o, u1, v1⟩ : OV)]) ++ [(⟨y.o, u2, v2⟩ : OV)])) ent2 := by
          rw [show ((zs ++ [(⟨x.o, u1, v1⟩ : OV)]) ++ [(⟨y.o, u2, v2⟩ : OV)]).length = (zs ++ [(⟨x.o, u1, v1⟩ : OV)]).length + 1 by simp, encL_app, encL_one]; exact hO
        have hI2 : ∀ z ∈ (zs ++ [(⟨x.o, u1, v1⟩ : OV)]) ++ [(⟨y.o, u2, v2⟩ : OV)], OwnIn ((eu2 ++ ev2) ++ ((eu1 ++ ev1) ++ inn)) z := by
          intro z hz'
          rcases List.mem_append.1 hz' with h1 | h1
          · exact (hI1 z h1).mono fun p hp => List.mem_append_right _ hp
          · simp only [List.mem_singleton] at h1
            subst h1
            exact ⟨eu2, ev2, hA2, hB2, fun p hp => by simp [hp], fun p hp => by simp [hp]⟩
        replace M := M.perm (l' := (b11, .cells (ovC y).toArray 58 (0, 0)) :: (b5, .cells (ovC x).toArray 58 (0, 0)) :: (((eu2 ++ ev2) ++ ((eu1 ++ ev1) ++ inn)) ++ ent2)) (by classical exact List.perm_iff_count.2 fun _ => by simp only [List.count_append, List.count_cons, List.count_nil, Nat.add_zero, Nat.zero_add] <;> ac_rfl)
        have hzn2 : ((zs ++ [(⟨x.o, u1, v1⟩ : OV)]) ++ [(⟨y.o, u2, v2⟩ : OV)]).length = (zs ++ [(⟨x.o, u1, v1⟩ : OV)]).length + 1 := by simp
        clear ho2 hl2
        obtain ⟨q2, c2, hsv2⟩ := hO.slice
        refine stepD rfl F rfl (o_assign (F.ev rfl) ?_); clear F; clear a; intro a F
        with_reducible refine l_nil ?_
        with_reducible refine q_inB ?_
        with_reducible refine q_then ?_
        with_reducible refine c_region ?_
        refine stepD rfl F rfl (o_add (F.ev rfl) (F.ev rfl) (w_i64 (by omega) (by omega)) ?_); clear F; clear a; intro a F
        refine stepD rfl F rfl (o_move (F.ev rfl) ?_); clear F; clear a; intro a F
        with_reducible refine l_nil ?_
        with_reducible refine q_then ?_
        exact ⟨_, by omega, i + 1, true, (zs ++ [⟨x.o, u1, v1⟩]) ++ [⟨y.o, u2, v2⟩], _, ent2, _, rfl, by omega, hO, hI2, by simp only [pn] at *; omega, by rw [hct, List.map_append, List.map_append]; exact hP.hi hac hk, F.only [31, 30, 29, 8, 9, 5, 1] rfl, M.sub (.cons _ (.refl _))⟩
    · have hk : 0 < cmpL y.o.h.rt x.o.h.rt := by
        have := hP
        simp only [Pl, if_true] at this
        exact this.2 _ List.mem_cons_self
      refine stepD rfl F rfl (o_assign (F.ev rfl) ?_); clear F; clear a; intro a F
      with_reducible refine l_nil ?_
      with_reducible refine q_then ?_
      with_reducible refine c_seq ?_
      with_reducible refine c_seq ?_
      with_reducible refine c_region ?_
      refine stepD rfl F rfl (o_move (F.ev rfl) ?_); clear F; clear a; intro a F
      refine stepD rfl F rfl (o_eqlF (F.ev rfl) (F.ev rfl) (by omega) ?_); clear F; clear a; intro a F
      refine stepD rfl F rfl (o_move (F.ev rfl) ?_); clear F; clear a; intro a F
      refine stepOff F rfl rfl rfl rfl ?_; clear F; clear a; intro a F
      refine stepOff F rfl rfl rfl rfl ?_; clear F; clear a; intro a F
      refine stepOff F rfl rfl rfl rfl ?_; clear F; clear a; intro a F
      refine stepOff F rfl rfl rfl rfl ?_; clear F; clear a; intro a F
      refine stepOff F rfl rfl rfl rfl ?_; clear F; clear a; intro a F
      refine stepD rfl F rfl (o_pickF (F.ev rfl) (F.ev rfl) ?_); clear F; clear a; intro a F
      with_reducible refine l_nil ?_
      with_reducible refine q_then ?_
      refine c_false F rfl rfl ?_
      with_reducible refine c_skip ?_
      with_reducible refine q_then ?_
      with_reducible refine c_seq ?_
      with_reducible refine c_seq ?_
      with_reducible refine c_region ?_
      refine stepD rfl F rfl (o_move (F.ev rfl) ?_); clear F; clear a; intro a F
      refine stepD rfl F rfl (o_geqT (F.ev rfl) (F.ev rfl) (by omega) ?_); clear F; clear a; intro a F
      refine stepD rfl F rfl (o_move (F.ev rfl) ?_); clear F; clear a; intro a F
      refine stepG rfl F rfl rfl rfl (o_move (F.ev rfl) ?_); clear F; clear a; intro a F
      refine stepG rfl F rfl rfl rfl (o_not (F.ev rfl) ?_); clear F; clear a; intro a F
      refine stepD rfl F rfl (o_pickT (F.ev rfl) (F.ev rfl) ?_); clear F; clear a; intro a F
      with_reducible refine l_nil ?_
      with_reducible refine q_then ?_
      refine c_false F rfl rfl ?_
      with_reducible refine c_skip ?_
      with_reducible refine q_then ?_
      with_reducible refine c_region ?_
      refine stepD rfl F rfl (o_move (F.ev rfl) ?_); clear F; clear a; intro a F
      refine stepD rfl F rfl (o_loadA M (F.ev rfl) (by repeat (first | exact .here | apply Has.there)) (by first | assumption | rfl) ?_); clear F; clear a; intro a F
      (refine stepD rfl F rfl (o_call (F.ev rfl) (F.evs rfl) (Cal.mono (rcopyV_c y (hyo) (by omega) (by omega) _ (hya.later M.ext) ) ?_)); clear F; clear a; rintro _ w ⟨u1, v1, eu1, ev1, rfl, hA1, hB1, N⟩ a F; replace M := M.joins N; clear N)
      have ho1 : (ovC ⟨y.o, u1, v1⟩).all (·.oneCell') = true := of_one _ _ _ hA1.one hB1.one
      have hl1 : (ovC ⟨y.o, u1, v1⟩).length = 20 := ov_len (x := ⟨y.o, u1, v1⟩) (hyo)
      skip
      (refine stepD rfl F rfl (o_buildSlice F M rfl rfl rfl (of_build1 (hyo).1 u1 v1) ?_); clear F; clear M; intro bs1 w M a F)
      replace M := M.perm (l' := (bs1, .cells (ovC ⟨y.o, u1, v1⟩).toArray 58 (0, 0)) :: (b11, .cells (ovC y).toArray 58 (0, 0)) :: (b5, .cells (ovC x).toArray 58 (0, 0)) :: ((eu1 ++ ev1) ++ (inn ++ ent))) (by classical exact List.perm_iff_count.2 fun _ => by simp only [List.count_append, List.count_cons, List.count_nil, Nat.add_zero, Nat.zero_add] <;> ac_rfl)
      (refine stepD rfl F rfl (o_append hO M (.cons (.cons (.cons (.app (.app .here))))) (F.ev rfl) (F.ev rfl) (SrcOf.cells' (M.heap .here) (sg_all (by omega)) ho1) (by omega) (by omega) ?_); clear F; clear M; clear hO; intro sv1 ent1 w hO M a F)
      replace M := M.sub (.cons _ (.refl _))
      replace hO : OwnS 58 20 sv1 (zs ++ [(⟨y.o, u1, v1⟩ : OV)]).length (encL ovC (zs ++ [(⟨y.o, u1, v1⟩ : OV)])) ent1 := by
        rw [show (zs ++ [(⟨y.o, u1, v1⟩ : OV)]).length = zs.length + 1 by simp, encL_app, encL_one]; exact hO
      have hI1 : ∀ z ∈ zs ++ [(⟨y.o, u1, v1⟩ : OV)], OwnIn ((eu1 ++ ev1) ++ inn) z := by
        intro z hz'
        rcases List.mem_append.1 hz' with h1 | h1
        · exact (hI z h1).mono fun p hp => List.mem_append_right _ hp
        · simp only [List.mem_singleton] at h1
          subst h1
          exact ⟨eu1, ev1, hA1, hB1, fun p hp => by simp [hp], fun p hp => by simp [hp]⟩
      replace M := M.perm (l' := (b11, .cells (ovC y).toArray 58 (0, 0)) :: (b5, .cells (ovC x).toArray 58 (0, 0)) :: (((eu1 ++ ev1) ++ inn) ++ ent1)) (by classical exact List.perm_iff_count.2 fun _ => by simp only [List.count_append, List.count_cons, List.count_nil, Nat.add_zero, Nat.zero_add] <;> ac_rfl)
      have hzn1 : (zs ++ [(⟨y.o, u1, v1⟩ : OV)]).length = zs.length + 1 := by simp
      clear ho1 hl1
      obtain ⟨q1, c1, hsv1⟩ := hO.slice
      refine stepD rfl F rfl (o_assign (F.ev rfl) ?_); clear F; clear a; intro a F
      with_reducible refine l_nil ?_
      with_reducible refine q_inB ?_
      with_reducible refine q_then ?_
      with_reducible refine c_region ?_
      refine stepD rfl F rfl (o_add (F.ev rfl) (F.ev rfl) (w_i64 (by omega) (by omega)) ?_); clear F; clear a; intro a F
      refine stepD rfl F rfl (o_move (F.ev rfl) ?_); clear F; clear a; intro a F
      with_reducible refine l_nil ?_
      with_reducible refine q_then ?_
      exact ⟨_, by omega, i + 1, true, zs ++ [⟨y.o, u1, v1⟩], _, ent1, _, rfl, by omega, hO, hI1, by simp only [pn] at *; omega, by rw [hct, List.map_append]; exact hP.on, F.only [31, 30, 29, 8, 9, 5, 1] rfl, M.sub (.cons _ (.refl _))⟩
  · obtain rfl : i = xs.length := by omega
    have hz0 : (xs.map (·.o)).drop xs.length = [] := List.drop_eq_nil_of_le (by simp)
    have hz1 : (xs.map (·.o)).take xs.length = xs.map (·.o) := List.take_of_length_le (by simp)
    rw [hz0, hz1, show curO [] now = [] from rfl] at hP
    cases placed
    · have hins := hP.end
      with_reducible refine c_seq ?_
      with_reducible refine c_region ?_
      refine stepD rfl F rfl (o_lssF (F.ev rfl) (F.ev rfl) (by omega) ?_); clear F; clear a; intro a F
      with_reducible refine l_nil ?_
      with_reducible refine q_then ?_
      with_reducible refine c_seq ?_
      refine c_false F rfl rfl ?_
      with_reducible refine c_exit ?_
      with_reducible refine q_thenX ?_
      with_reducible refine q_thenX ?_
      with_reducible refine q_inBX ?_
      with_reducible refine q_then ?_
      with_reducible refine c_seq ?_
      with_reducible refine c_seq ?_
      with_reducible refine c_region ?_
      refine stepD rfl F rfl (o_move (F.ev rfl) ?_); clear F; clear a; intro a F
      refine stepD rfl F rfl (o_not (F.ev rfl) ?_); clear F; clear a; intro a F
      with_reducible refine l_nil ?_
      with_reducible refine q_then ?_
      refine c_true F rfl rfl ?_
      with_reducible refine c_region ?_
      refine stepD rfl F rfl (o_move (F.ev rfl) ?_); clear F; clear a; intro a F
      refine stepD rfl F rfl (o_loadA M (F.ev rfl) (by repeat (first | exact .here | apply Has.there)) (by first | assumption | rfl) ?_); clear F; clear a; intro a F
      (refine stepD rfl F rfl (o_call (F.ev rfl) (F.evs rfl) (Cal.mono (rcopyV_c x (hxo) (by omega) (by omega) _ (hxa.later M.ext) ) ?_)); clear F; clear a; rintro _ w ⟨u1, v1, eu1, ev1, rfl, hA1, hB1, N⟩ a F; replace M := M.joins N; clear N)
      have ho1 : (ovC ⟨x.o, u1, v1⟩).all (·.oneCell') = true := of_one _ _ _ hA1.one hB1.one
      have hl1 : (ovC ⟨x.o, u1, v1⟩).length = 20 := ov_len (x := ⟨x.o, u1, v1⟩) (hxo)
      skip
      (refine stepD rfl F rfl (o_buildSlice F M rfl rfl rfl (of_build1 (hxo).1 u1 v1) ?_); clear F; clear M; intro bs1 w M a F)
      replace M := M.perm (l' := (bs1, .cells (ovC ⟨x.o, u1, v1⟩).toArray 58 (0, 0)) :: (b5, .cells (ovC x).toArray 58 (0, 0)) :: ((eu1 ++ ev1) ++ (inn ++ ent))) (by classical exact List.perm_iff_count.2 fun _ => by simp only [List.count_append, List.count_cons, List.count_nil, Nat.add_zero, Nat.zero_add] <;> ac_rfl)
      (refine stepD rfl F rfl (o_append hO M (.cons (.cons (.app (.app .here)))) (F.ev rfl) (F.ev rfl) (SrcOf.cells' (M.heap .here) (sg_all (by omega)) ho1) (by omega) (by omega) ?_); clear F; clear M; clear hO; intro sv1 ent1 w hO M a F)
      replace M := M.sub (.cons _ (.refl _))
      replace hO : OwnS 58 20 sv1 (zs ++ [(⟨x.o, u1, v1⟩ : OV)]).length (encL ovC (zs ++ [(⟨x.o, u1, v1⟩ : OV)])) ent1 := by
        rw [show (zs ++ [(⟨x.o, u1, v1⟩ : OV)]).length = zs.length + 1 by simp, encL_app, encL_one]; exact hO
      have hI1 : ∀ z ∈ zs ++ [(⟨x.o, u1, v1⟩ : OV)], OwnIn ((eu1 ++ ev1) ++ inn) z := by
        intro z hz'
        rcases List.mem_append.1 hz' with h1 | h1
        · exact (hI z h1).mono fun p hp => List.mem_append_right _ hp
        · simp only [List.mem_singleton] at h1
          subst h1
          exact ⟨eu1, ev1, hA1, hB1, fun p hp => by simp [hp], fun p hp => by simp [hp]⟩
      replace M := M.perm (l' := (b5, .cells (ovC x).toArray 58 (0, 0)) :: (((eu1 ++ ev1) ++ inn) ++ ent1)) (by classical exact List.perm_iff_count.2 fun _ => by simp only [List.count_append, List.count_cons, List.count_nil, Nat.add_zero, Nat.zero_add] <;> ac_rfl)
      have hzn1 : (zs ++ [(⟨x.o, u1, v1⟩ : OV)]).length = zs.length + 1 := by simp
      clear ho1 hl1
      obtain ⟨q1, c1, hsv1⟩ := hO.slice
      subst hsv1
      rw [show (zs.map (·.o)) ++ [x.o] = (zs ++ [(⟨x.o, u1, v1⟩ : OV)]).map (·.o) by simp] at hins
      have hacc := hfl _ hins
      dsimp only at hacc
      by_cases c9 : 8 < (zs ++ [(⟨x.o, u1, v1⟩ : OV)]).length
      · rw [if_pos (by simpa using c9)] at hacc
        rw [hacc]
        refine stepD rfl F rfl (o_assign (F.ev rfl) ?_); clear F; clear a; intro a F
        with_reducible refine l_nil ?_
        with_reducible refine q_then ?_
        with_reducible refine c_seq ?_
        with_reducible refine c_seq ?_
        with_reducible refine c_region ?_
        refine stepD rfl F rfl (o_move (F.ev rfl) ?_); clear F; clear a; intro a F
        refine stepD rfl F rfl (o_lenSl (F.ev rfl) ?_); clear F; clear a; intro a F
        refine stepD rfl F rfl (o_gtrT (F.ev rfl) (F.ev rfl) (by omega) ?_); clear F; clear a; intro a F
        with_reducible refine l_nil ?_
        with_reducible refine q_then ?_
        refine c_true F rfl rfl ?_
        with_reducible refine c_seq ?_
        with_reducible refine c_region ?_
        refine stepD rfl F rfl (o_assign (F.ev rfl) ?_); clear F; clear a; intro a F
        refine stepD rfl F rfl (o_assign (F.ev rfl) ?_); clear F; clear a; intro a F
        with_reducible refine l_nil ?_
        with_reducible refine q_then ?_
        with_reducible refine c_ret ?_
        with_reducible refine q_thenR ?_
        refine p_ret F rfl (.cons (.tmp (F.ev rfl)) (.cons (.tmp (F.ev rfl)) .nil)) ?_
        exact ⟨_, rfl, OffsN.nil _ _, M.ext⟩
      · rw [if_neg (by simpa using c9)] at hacc
        rw [hacc]
        refine stepD rfl F rfl (o_assign (F.ev rfl) ?_); clear F; clear a; intro a F
        with_reducible refine l_nil ?_
        with_reducible refine q_then ?_
        with_reducible refine c_seq ?_
        with_reducible refine c_seq ?_
        with_reducible refine c_region ?_
        refine stepD rfl F rfl (o_move (F.ev rfl) ?_); clear F; clear a; intro a F
        refine stepD rfl F rfl (o_lenSl (F.ev rfl) ?_); clear F; clear a; intro a F
        refine stepD rfl F rfl (o_gtrF (F.ev rfl) (F.ev rfl) (by omega) ?_); clear F; clear a; intro a F
        with_reducible refine l_nil ?_
        with_reducible refine q_then ?_
        refine c_false F rfl rfl ?_
        with_reducible refine c_skip ?_
        with_reducible refine q_then ?_
        with_reducible refine c_seq ?_
        with_reducible refine c_region ?_
        refine stepD rfl F rfl (o_move (F.ev rfl) ?_); clear F; clear a; intro a F
        refine stepD rfl F rfl (o_assign (F.ev rfl) ?_); clear F; clear a; intro a F
        refine stepD rfl F rfl (o_assign (F.ev rfl) ?_); clear F; clear a; intro a F
        with_reducible refine l_nil ?_
        with_reducible refine q_then ?_
        with_reducible refine c_ret ?_
        refine p_ret F rfl (.cons (.tmp (F.ev rfl)) (.cons (.tmp (F.ev rfl)) .nil)) ?_
        exact ⟨_, rfl, ⟨zs ++ [(⟨x.o, u1, v1⟩ : OV)], by simp, hO.slAt M fun p hp => by simp [hp], fun z hz => (hI1 z hz).at M fun p hp => List.mem_cons_of_mem _ (List.mem_append_left _ hp), hO.newV M fun p hp => by simp [hp], fun z hz => (hI1 z hz).newV M fun p hp => List.mem_cons_of_mem _ (List.mem_append_left _ hp)⟩, M.ext⟩
    · have hins := hP.endT
      have hacc := hfl _ hins
      dsimp only at hacc
      by_cases c9 : 8 < (zs).length
      · rw [if_pos (by simpa using c9)] at hacc
        rw [hacc]
        with_reducible refine c_seq ?_
        with_reducible refine c_region ?_
        refine stepD rfl F rfl (o_lssF (F.ev rfl) (F.ev rfl) (by omega) ?_); clear F; clear a; intro a F
        with_reducible refine l_nil ?_
        with_reducible refine q_then ?_
        with_reducible refine c_seq ?_
        refine c_false F rfl rfl ?_
        with_reducible refine c_exit ?_
        with_reducible refine q_thenX ?_
        with_reducible refine q_thenX ?_
        with_reducible refine q_inBX ?_
        with_reducible refine q_then ?_
        with_reducible refine c_seq ?_
        with_reducible refine c_seq ?_
        with_reducible refine c_region ?_
        refine stepD rfl F rfl (o_move (F.ev rfl) ?_); clear F; clear a; intro a F
        refine stepD rfl F rfl (o_not (F.ev rfl) ?_); clear F; clear a; intro a F
        with_reducible refine l_nil ?_
        with_reducible refine q_then ?_
        refine c_false F rfl rfl ?_
        with_reducible refine c_skip ?_
        with_reducible refine q_then ?_
        with_reducible refine c_seq ?_
        with_reducible refine c_seq ?_
        with_reducible refine c_region ?_
        refine stepD rfl F rfl (o_move (F.ev rfl) ?_); clear F; clear a; intro a F
        refine stepD rfl F rfl (o_lenSl (F.ev rfl) ?_); clear F; clear a; intro a F
        refine stepD rfl F rfl (o_gtrT (F.ev rfl) (F.ev rfl) (by omega) ?_); clear F; clear a; intro a F
        with_reducible refine l_nil ?_
        with_reducible refine q_then ?_
        refine c_true F rfl rfl ?_
        with_reducible refine c_seq ?_
        with_reducible refine c_region ?_
        refine stepD rfl F rfl (o_assign (F.ev rfl) ?_); clear F; clear a; intro a F
        refine stepD rfl F rfl (o_assign (F.ev rfl) ?_); clear F; clear a; intro a F
        with_reducible refine l_nil ?_
        with_reducible refine q_then ?_
        with_reducible refine c_ret ?_
        with_reducible refine q_thenR ?_
        refine p_ret F rfl (.cons (.tmp (F.ev rfl)) (.cons (.tmp (F.ev rfl)) .nil)) ?_
        exact ⟨_, rfl, OffsN.nil _ _, M.ext⟩
      · rw [if_neg (by simpa using c9)] at hacc
        rw [hacc]
        with_reducible refine c_seq ?_
        with_reducible refine c_region ?_
        refine stepD rfl F rfl (o_lssF (F.ev rfl) (F.ev rfl) (by omega) ?_); clear F; clear a; intro a F
        with_reducible refine l_nil ?_
        with_reducible refine q_then ?_
        with_reducible refine c_seq ?_
        refine c_false F rfl rfl ?_
        with_reducible refine c_exit ?_
        with_reducible refine q_thenX ?_
        with_reducible refine q_thenX ?_
        with_reducible refine q_inBX ?_
        with_reducible refine q_then ?_
        with_reducible refine c_seq ?_
        with_reducible refine c_seq ?_
        with_reducible refine c_region ?_
        refine stepD rfl F rfl (o_move (F.ev rfl) ?_); clear F; clear a; intro a F
        refine stepD rfl F rfl (o_not (F.ev rfl) ?_); clear F; clear a; intro a F
        with_reducible refine l_nil ?_
        with_reducible refine q_then ?_
        refine c_false F rfl rfl ?_
        with_reducible refine c_skip ?_
        with_reducible refine q_then ?_
        with_reducible refine c_seq ?_
        with_reducible refine c_seq ?_
        with_reducible refine c_region ?_
        refine stepD rfl F rfl (o_move (F.ev rfl) ?_); clear F; clear a; intro a F
        refine stepD rfl F rfl (o_lenSl (F.ev rfl) ?_); clear F; clear a; intro a F
        refine stepD rfl F rfl (o_gtrF (F.ev rfl) (F.ev rfl) (by omega) ?_); clear F; clear a; intro a F
        with_reducible refine l_nil ?_
        with_reducible refine q_then ?_
        refine c_false F rfl rfl ?_
        with_reducible refine c_skip ?_
        with_reducible refine q_then ?_
        with_reducible refine c_seq ?_
        with_reducible refine c_region ?_
        refine stepD rfl F rfl (o_move (F.ev rfl) ?_); clear F; clear a; intro a F
        refine stepD rfl F rfl (o_assign (F.ev rfl) ?_); clear F; clear a; intro a F
        refine stepD rfl F rfl (o_assign (F.ev rfl) ?_); clear F; clear a; intro a F
        with_reducible refine l_nil ?_
        with_reducible refine q_then ?_
        with_reducible refine c_ret ?_
        refine p_ret F rfl (.cons (.tmp (F.ev rfl)) (.cons (.tmp (F.ev rfl)) .nil)) ?_
        exact ⟨_, rfl, ⟨zs, by simp, hO.slAt M fun p hp => by simp [hp], fun z hz => (hI z hz).at M fun p hp => List.mem_cons_of_mem _ (List.mem_append_left _ hp), hO.newV M fun p hp => by simp [hp], fun z hz => (hI z hz).newV M fun p hp => List.mem_cons_of_mem _ (List.mem_append_left _ hp)⟩, M.ext⟩
end Go.Proofs.Ytainnefmobfcjaa
/-! FD -/
namespace Go.Proofs.Ytainnefmobfcjaa
set_option linter.unusedVariables false
set_option linter.unusedSimpArgs false
open Go.RowKit
attribute [local irreducible] OpTo wpListIn Code.wpIn MW Cal
theorem cmpL_gt {a b : List Int} (h : 0 < cmpL a b) : cmpL b a < 0 := by rw [cmpL_anti]; omega
theorem insO_mem {o : Off} : ∀ {ys r : List Off}, insO o ys = some r → ∀ z ∈ r, z = o ∨ z ∈ ys ∨ ∃ y ∈ ys, cmpL y.h.rt o.h.rt = 0 ∧ z = later2 y o
  | [], r, h, z, hz => by
    simp only [insO, Option.some.injEq] at h
    subst h
    simp at hz
    exact .inl hz
  | y :: ys, r, h, z, hz => by
    simp only [insO] at h
    split at h
    · cases hi : insO o ys with
      | none => rw [hi] at h; cases h
      | some r' =>
        rw [hi] at h
        simp only [Option.map_some, Option.some.injEq] at h
        subst h
        rcases List.mem_cons.1 hz with h1 | h1
        · exact .inr (.inl (by simp [h1]))
        · rcases insO_mem hi z h1 with h2 | h2 | ⟨y', h2, h3⟩
          · exact .inl h2
          · exact .inr (.inl (by simp [h2]))
          · exact .inr (.inr ⟨y', by simp [h2], h3⟩)
    · split at h
      · rename_i hk
        split at h
        · cases h
        · split at h
          · simp only [Option.some.injEq] at h
            subst h
            rcases List.mem_cons.1 hz with h1 | h1
            · exact .inr (.inr ⟨y, by simp, hk, h1⟩)
            · exact .inr (.inl (by simp [h1]))
          · simp only [Option.some.injEq] at h
            subst h
            rcases List.mem_cons.1 hz with h1 | h1
            · exact .inl h1
            · exact .inr (.inl (by simp [h1]))
      · simp only [Option.some.injEq] at h
        subst h
        rcases List.mem_cons.1 hz with h1 | h1
        · exact .inl h1
        · exact .inr (.inl h1)
theorem insO_asc {o : Off} : ∀ {ys r : List Off}, insO o ys = some r → Asc ys → Asc r
  | [], r, h, _ => by
    simp only [insO, Option.some.injEq] at h
    subst h
    simp [Asc]
  | y :: ys, r, h, ha => by
    have hm := insO_mem h
    have ha' := List.pairwise_cons.1 ha
    simp only [insO] at h
    split at h
    · rename_i hk
      cases hi : insO o ys with
      | none => rw [hi] at h; cases h
      | some r' =>
        rw [hi] at h
        simp only [Option.map_some, Option.some.injEq] at h
        subst h
        refine List.pairwise_cons.2 ⟨fun z hz => ?_, insO_asc hi ha'.2⟩
        rcases insO_mem hi z hz with h2 | h2 | ⟨y', h2, _, h4⟩
        · rw [h2]; exact hk
        · exact ha'.1 z h2
        · rw [h4]; exact ha'.1 y' h2
    · split at h
      · rename_i hk
        have hrt := cmpL_zero hk
        split at h
        · cases h
        · split at h
          · simp only [Option.some.injEq] at h
            subst h
            exact List.pairwise_cons.2 ⟨fun z hz => ha'.1 z hz, ha'.2⟩
          · simp only [Option.some.injEq] at h
            subst h
            exact List.pairwise_cons.2 ⟨fun z hz => by rw [← hrt]; exact ha'.1 z hz, ha'.2⟩
      · rename_i h1 h2
        simp only [Option.some.injEq] at h
        subst h
        have h3 : cmpL o.h.rt y.h.rt < 0 := cmpL_gt (by omega)
        refine List.pairwise_cons.2 ⟨fun z hz => ?_, ha⟩
        rcases List.mem_cons.1 hz with h4 | h4
        · rw [h4]; exact h3
        · exact cmpL_lt_trans h3 (ha'.1 z h4)
theorem later2_valid {y o : Off} (hy : validO y = true) (ho : validO o = true) : validO (later2 y o) = true := by
  unfold validO hdO later2 at *
  simp only [Bool.and_eq_true, decide_eq_true_eq] at *
  refine ⟨⟨⟨⟨⟨⟨hy.1.1.1.1.1.1, hy.1.1.1.1.1.2⟩, ?_⟩, hy.1.1.1.2⟩, hy.1.1.2⟩, hy.1.2⟩, hy.2⟩
  split
  · exact ho.1.1.1.1.2
  · exact hy.1.1.1.1.2
theorem validL_mk {r : List Off} (h1 : r.length ≤ 8) (h2 : ∀ z ∈ r, validO z = true) (h3 : Asc r) : validL r = true := by
  unfold validL
  rw [decide_eq_true h1, Bool.true_and]
  refine allI_t fun i hi => ?_
  unfold valid1
  rw [List.getElem?_eq_getElem hi]
  simp only [Bool.and_eq_true, Bool.or_eq_true, decide_eq_true_eq]
  refine ⟨h2 _ (List.getElem_mem _), ?_⟩
  rcases Nat.eq_zero_or_pos i with h0 | h0
  · exact .inl h0
  · right
    rw [dif_pos (by omega)]
    exact decide_eq_true ((List.pairwise_iff_getElem.1 h3) (i - 1) i (by omega) hi (by omega))
/-- what holds of what Accept answers -/
theorem acceptV_cases (os : List Off) (now : Int) (o : Off) : ((acceptV os now o).1 = [] ∧ (acceptV os now o).2 ≠ 0) ∨ (validL os = true ∧ validO o = true ∧ (acceptV os now o).2 = 0 ∧ validL (acceptV os now o).1 = true ∧ ∀ z ∈ (acceptV os now o).1, z = o ∨ z ∈ os ∨ ∃ y ∈ os, cmpL y.h.rt o.h.rt = 0 ∧ z = later2 y o) := by
  unfold acceptV
  cases hv : validL os
  · left; simp
  cases ho : validO o
  · left; simp
  cases ht : isTime now
  · left; simp
  simp only [Bool.and_self, if_true]
  by_cases c1 : o.h.til ≤ now
  · left; rw [if_pos c1]; simp
  rw [if_neg c1]
  cases hi : insO o (curO os now) with
  | none => left; simp
  | some r =>
    simp only
    by_cases c2 : 8 < r.length
    · left; rw [if_pos c2]; simp
    · right
      rw [if_neg c2]
      have hm := insO_mem hi
      have hsub : ∀ z ∈ curO os now, z ∈ os := fun z hz => (List.mem_filter.1 hz).1
      refine ⟨trivial, trivial, rfl, validL_mk (show r.length ≤ 8 by omega) (fun z hz => ?_) (insO_asc hi ((validL_asc hv).filter _)), fun z hz => ?_⟩
      · rcases hm z hz with h | h | ⟨y, h, _, h2⟩
        · rw [h]; exact ho
        · exact validL_each hv (hsub z h)
        · rw [h2]; exact later2_valid (validL_each hv (hsub y h)) ho
      · rcases hm z hz with h | h | ⟨y, h, h2⟩
        · exact .inl h
        · exact .inr (.inl (hsub z h))
        · exact .inr (.inr ⟨y, hsub y h, h2⟩)
theorem acceptV_is {os : List Off} {now : Int} {o : Off} (hos : ∀ z ∈ os, IsOff z) (ho : IsOff o) : ∀ z ∈ (acceptV os now o).1, IsOff z ∧ z.ps.length ≤ 16 ∧ z.cs.length ≤ 16 := by
  intro z hz
  rcases acceptV_cases os now o with ⟨h, _⟩ | ⟨_, _, _, hv, hm⟩
  · rw [h] at hz; cases hz
  · have h1 := validO_len (validL_each hv hz)
    refine ⟨?_, h1⟩
    rcases hm z hz with h | h | ⟨y, h, _, h2⟩
    · rw [h]; exact ho
    · exact hos z h
    · rw [h2]; exact ⟨(hos y h).1, (hos y h).2⟩
theorem acceptV_len (os : List Off) (now : Int) (o : Off) : (acceptV os now o).1.length ≤ 8 := by
  rcases acceptV_cases os now o with ⟨h, _⟩ | ⟨_, _, _, hv, _⟩
  · rw [h]; simp
  · exact validL_len hv
end Go.Proofs.Ytainnefmobfcjaa
/-! FE -/
namespace Go.Proofs.Ytainnefmobfcjaa
set_option linter.unusedVariables false
set_option linter.unusedSimpArgs false
open Go.RowKit
attribute [local irreducible] OpTo wpListIn Code.wpIn MW Cal
theorem base_c {bt : Nat} {p : Option Addr} {len cap k : Nat} {xs : List Int} (W : World) (hT : TapeS W bt p len xs) (hb : W.heap[bt]? = some (tobj p len cap k)) :
    Cal Try.prog 24 [.pointer (some ⟨bt, 0, none⟩)].toArray W fun v w' => ∃ x k', v = .int .i64 x ∧ (0 ≤ x ∧ x ≤ 1099511627776) ∧ Mem [bt] W w' [(bt, tobj p len cap k')] := by
  refine fn_ofM (n := 16) [bt] Try.func24 rfl rfl rfl ?_
  intro a w F M hwW
  replace M := M.came hwW hb (by simp) (by simp)
  with_reducible refine c_seq ?_
  with_reducible refine c_region ?_
  refine stepD rfl F rfl (o_assign (F.ev rfl) ?_); clear F; clear a; intro a F
  with_reducible refine l_nil ?_
  with_reducible refine q_then ?_
  with_reducible refine c_seq ?_
  with_reducible refine c_seq ?_
  with_reducible refine c_region ?_
  refine stepD rfl F rfl (o_move (F.ev rfl) ?_); clear F; clear a; intro a F
  (refine stepD rfl F rfl (o_call (F.ev rfl) (F.evs rfl) (Cal.mono (nextE_c 6 (by omega) (by omega) _ (hT.later M.ext) (M.heap .here) ) ?_)); clear F; clear a; have M0 := M; clear M; rintro _ w ⟨x, k', rfl, hx, N⟩ a F)
  replace M := M0.turn1 N .here
  clear M0
  by_cases c1 : x = 0
  · with_reducible refine l_nil ?_
    with_reducible refine q_then ?_
    with_reducible refine c_block ?_
    with_reducible refine c_seq ?_
    with_reducible refine c_region ?_
    refine stepD rfl F rfl (o_eqlT (F.ev rfl) (F.ev rfl) (by omega) ?_); clear F; clear a; intro a F
    refine stepD rfl F rfl (o_assign (F.ev rfl) ?_); clear F; clear a; intro a F
    with_reducible refine l_nil ?_
    with_reducible refine q_then ?_
    refine c_true F rfl rfl ?_
    with_reducible refine c_seq ?_
    with_reducible refine c_region ?_
    refine stepD rfl F rfl (o_move (F.ev rfl) ?_); clear F; clear a; intro a F
    (refine stepD rfl F rfl (o_call (F.ev rfl) (F.evs rfl) (Cal.mono (nextE_c 5 (by omega) (by omega) _ (hT.later M.ext) (M.heap .here) ) ?_)); clear F; clear a; have M0 := M; clear M; rintro _ w ⟨x2, k2, rfl, hx2, N⟩ a F)
    replace M := M0.turn1 N .here
    refine stepD rfl F rfl (o_assign (F.ev rfl) ?_); clear F; clear a; intro a F
    with_reducible refine l_nil ?_
    with_reducible refine q_then ?_
    with_reducible refine c_ret ?_
    with_reducible refine q_inBR ?_
    with_reducible refine q_thenR ?_
    refine p_ret F rfl (.cons (.tmp (F.ev rfl)) .nil) ?_
    exact ⟨_, k2, rfl, by omega, M⟩
  by_cases c2 : x = 1
  · with_reducible refine l_nil ?_
    with_reducible refine q_then ?_
    with_reducible refine c_block ?_
    with_reducible refine c_seq ?_
    with_reducible refine c_region ?_
    refine stepD rfl F rfl (o_eqlF (F.ev rfl) (F.ev rfl) (by omega) ?_); clear F; clear a; intro a F
    refine stepD rfl F rfl (o_assign (F.ev rfl) ?_); clear F; clear a; intro a F
    with_reducible refine l_nil ?_
    with_reducible refine q_then ?_
    refine c_false F rfl rfl ?_
    with_reducible refine c_seq ?_
    with_reducible refine c_region ?_
    refine stepD rfl F rfl (o_eqlT (F.ev rfl) (F.ev rfl) (by omega) ?_); clear F; clear a; intro a F
    refine stepD rfl F rfl (o_assign (F.ev rfl) ?_); clear F; clear a; intro a F
    with_reducible refine l_nil ?_
    with_reducible refine q_then ?_
    refine c_true F rfl rfl ?_
    with_reducible refine c_seq ?_
    with_reducible refine c_region ?_
    refine stepD rfl F rfl (o_move (F.ev rfl) ?_); clear F; clear a; intro a F
    (refine stepD rfl F rfl (o_call (F.ev rfl) (F.evs rfl) (Cal.mono (nextE_c 40 (by omega) (by omega) _ (hT.later M.ext) (M.heap .here) ) ?_)); clear F; clear a; have M0 := M; clear M; rintro _ w ⟨x2, k2, rfl, hx2, N⟩ a F)
    replace M := M0.turn1 N .here
    refine stepD rfl F rfl (o_sub (F.ev rfl) (F.ev rfl) (w_i64 (by omega) (by omega)) ?_); clear F; clear a; intro a F
    refine stepD rfl F rfl (o_assign (F.ev rfl) ?_); clear F; clear a; intro a F
    with_reducible refine l_nil ?_
    with_reducible refine q_then ?_
    with_reducible refine c_ret ?_
    with_reducible refine q_inBR ?_
    with_reducible refine q_thenR ?_
    refine p_ret F rfl (.cons (.tmp (F.ev rfl)) .nil) ?_
    exact ⟨_, k2, rfl, by omega, M⟩
  · with_reducible refine l_nil ?_
    with_reducible refine q_then ?_
    with_reducible refine c_block ?_
    with_reducible refine c_seq ?_
    with_reducible refine c_region ?_
    refine stepD rfl F rfl (o_eqlF (F.ev rfl) (F.ev rfl) (by omega) ?_); clear F; clear a; intro a F
    refine stepD rfl F rfl (o_assign (F.ev rfl) ?_); clear F; clear a; intro a F
    with_reducible refine l_nil ?_
    with_reducible refine q_then ?_
    refine c_false F rfl rfl ?_
    with_reducible refine c_seq ?_
    with_reducible refine c_region ?_
    refine stepD rfl F rfl (o_eqlF (F.ev rfl) (F.ev rfl) (by omega) ?_); clear F; clear a; intro a F
    refine stepD rfl F rfl (o_assign (F.ev rfl) ?_); clear F; clear a; intro a F
    with_reducible refine l_nil ?_
    with_reducible refine q_then ?_
    refine c_false F rfl rfl ?_
    with_reducible refine c_skip ?_
    with_reducible refine q_inB ?_
    with_reducible refine q_then ?_
    with_reducible refine c_seq ?_
    with_reducible refine c_region ?_
    refine stepD rfl F rfl (o_move (F.ev rfl) ?_); clear F; clear a; intro a F
    (refine stepD rfl F rfl (o_call (F.ev rfl) (F.evs rfl) (Cal.mono (nextE_c 1000 (by omega) (by omega) _ (hT.later M.ext) (M.heap .here) ) ?_)); clear F; clear a; have M0 := M; clear M; rintro _ w ⟨x2, k2, rfl, hx2, N⟩ a F)
    replace M := M0.turn1 N .here
    refine stepD rfl F rfl (o_assign (F.ev rfl) ?_); clear F; clear a; intro a F
    with_reducible refine l_nil ?_
    with_reducible refine q_then ?_
    with_reducible refine c_ret ?_
    refine p_ret F rfl (.cons (.tmp (F.ev rfl)) .nil) ?_
    exact ⟨_, k2, rfl, by omega, M⟩
theorem small_c (x : OV) (hx : IsOff x.o) (W : World) (hA : OffAt W x) :
    Cal Try.prog 23 [.agg (ovC x).toArray].toArray W fun r w' => r = .bool (decide (x.o.ps.length ≤ 20) && decide (x.o.cs.length ≤ 20)) ∧ Ext [] W w' := by
  obtain ⟨q1, cap1, hu, _⟩ := hA.1
  obtain ⟨q2, cap2, hv, _⟩ := hA.2
  have e4 : nth (ovC x) 18 = some (.slice q1 x.o.ps.length cap1) := by rw [← hu]; exact of_ps hx.1 _ _
  have e5 : nth (ovC x) 19 = some (.slice q2 x.o.cs.length cap2) := by rw [← hv]; exact of_cs hx.1 _ _
  by_cases c1 : x.o.ps.length ≤ 20
  · rw [decide_eq_true c1, Bool.true_and]
    by_cases c2 : x.o.cs.length ≤ 20
    · rw [decide_eq_true c2]
      refine fn_ofM (n := 13) [] Try.func23 rfl rfl rfl ?_
      intro a w F M hwW
      refine c_seq ?_
      refine c_region ?_
      (refine stepD rfl F rfl (o_box M (F.ev rfl) rfl ?_); clear F; clear M; intro b1 w M a F)
      refine stepD rfl F rfl (o_assign (F.ev rfl) ?_); clear F; clear a; intro a F
      with_reducible refine l_nil ?_
      with_reducible refine q_then ?_
      with_reducible refine c_seq ?_
      with_reducible refine c_region ?_
      refine stepD rfl F rfl (o_fieldAddr (F.ev rfl) ?_); clear F; clear a; intro a F
      refine stepD rfl F rfl (o_load1 M (F.ev rfl) (by repeat (first | exact .here | apply Has.there)) (by first | assumption | rfl) ?_); clear F; clear a; intro a F
      refine stepD rfl F rfl (o_lenSl (F.ev rfl) ?_); clear F; clear a; intro a F
      refine stepD rfl F rfl (o_leqT (F.ev rfl) (F.ev rfl) (by omega) ?_); clear F; clear a; intro a F
      refine stepD rfl F rfl (o_move (F.ev rfl) ?_); clear F; clear a; intro a F
      refine stepG rfl F rfl rfl rfl (o_fieldAddr (F.ev rfl) ?_); clear F; clear a; intro a F
      refine stepG rfl F rfl rfl rfl (o_load1 M (F.ev rfl) (by repeat (first | exact .here | apply Has.there)) (by first | assumption | rfl) ?_); clear F; clear a; intro a F
      refine stepG rfl F rfl rfl rfl (o_lenSl (F.ev rfl) ?_); clear F; clear a; intro a F
      refine stepG rfl F rfl rfl rfl (o_leqT (F.ev rfl) (F.ev rfl) (by omega) ?_); clear F; clear a; intro a F
      refine stepD rfl F rfl (o_pickT (F.ev rfl) (F.ev rfl) ?_); clear F; clear a; intro a F
      refine stepD rfl F rfl (o_assign (F.ev rfl) ?_); clear F; clear a; intro a F
      with_reducible refine l_nil ?_
      with_reducible refine q_then ?_
      with_reducible refine c_ret ?_
      refine p_ret F rfl (.cons (.tmp (F.ev rfl)) .nil) ?_
      exact ⟨rfl, M.ext⟩
    · rw [decide_eq_false c2]
      refine fn_ofM (n := 13) [] Try.func23 rfl rfl rfl ?_
      intro a w F M hwW
      refine c_seq ?_
      refine c_region ?_
      (refine stepD rfl F rfl (o_box M (F.ev rfl) rfl ?_); clear F; clear M; intro b1 w M a F)
      refine stepD rfl F rfl (o_assign (F.ev rfl) ?_); clear F; clear a; intro a F
      with_reducible refine l_nil ?_
      with_reducible refine q_then ?_
      with_reducible refine c_seq ?_
      with_reducible refine c_region ?_
      refine stepD rfl F rfl (o_fieldAddr (F.ev rfl) ?_); clear F; clear a; intro a F
      refine stepD rfl F rfl (o_load1 M (F.ev rfl) (by repeat (first | exact .here | apply Has.there)) (by first | assumption | rfl) ?_); clear F; clear a; intro a F
      refine stepD rfl F rfl (o_lenSl (F.ev rfl) ?_); clear F; clear a; intro a F
      refine stepD rfl F rfl (o_leqT (F.ev rfl) (F.ev rfl) (by omega) ?_); clear F; clear a; intro a F
      refine stepD rfl F rfl (o_move (F.ev rfl) ?_); clear F; clear a; intro a F
      refine stepG rfl F rfl rfl rfl (o_fieldAddr (F.ev rfl) ?_); clear F; clear a; intro a F
      refine stepG rfl F rfl rfl rfl (o_load1 M (F.ev rfl) (by repeat (first | exact .here | apply Has.there)) (by first | assumption | rfl) ?_); clear F; clear a; intro a F
      refine stepG rfl F rfl rfl rfl (o_lenSl (F.ev rfl) ?_); clear F; clear a; intro a F
      refine stepG rfl F rfl rfl rfl (o_leqF (F.ev rfl) (F.ev rfl) (by omega) ?_); clear F; clear a; intro a F
      refine stepD rfl F rfl (o_pickT (F.ev rfl) (F.ev rfl) ?_); clear F; clear a; intro a F
      refine stepD rfl F rfl (o_assign (F.ev rfl) ?_); clear F; clear a; intro a F
      with_reducible refine l_nil ?_
      with_reducible refine q_then ?_
      with_reducible refine c_ret ?_
      refine p_ret F rfl (.cons (.tmp (F.ev rfl)) .nil) ?_
      exact ⟨rfl, M.ext⟩
  · rw [decide_eq_false c1, Bool.false_and]
    refine fn_ofM (n := 13) [] Try.func23 rfl rfl rfl ?_
    intro a w F M hwW
    refine c_seq ?_
    refine c_region ?_
    (refine stepD rfl F rfl (o_box M (F.ev rfl) rfl ?_); clear F; clear M; intro b1 w M a F)
    refine stepD rfl F rfl (o_assign (F.ev rfl) ?_); clear F; clear a; intro a F
    with_reducible refine l_nil ?_
    with_reducible refine q_then ?_
    with_reducible refine c_seq ?_
    with_reducible refine c_region ?_
    refine stepD rfl F rfl (o_fieldAddr (F.ev rfl) ?_); clear F; clear a; intro a F
    refine stepD rfl F rfl (o_load1 M (F.ev rfl) (by repeat (first | exact .here | apply Has.there)) (by first | assumption | rfl) ?_); clear F; clear a; intro a F
    refine stepD rfl F rfl (o_lenSl (F.ev rfl) ?_); clear F; clear a; intro a F
    refine stepD rfl F rfl (o_leqF (F.ev rfl) (F.ev rfl) (by omega) ?_); clear F; clear a; intro a F
    refine stepD rfl F rfl (o_move (F.ev rfl) ?_); clear F; clear a; intro a F
    refine stepOff F rfl rfl rfl rfl ?_; clear F; clear a; intro a F
    refine stepOff F rfl rfl rfl rfl ?_; clear F; clear a; intro a F
    refine stepOff F rfl rfl rfl rfl ?_; clear F; clear a; intro a F
    refine stepOff F rfl rfl rfl rfl ?_; clear F; clear a; intro a F
    refine stepD rfl F rfl (o_pickF (F.ev rfl) (F.ev rfl) ?_); clear F; clear a; intro a F
    refine stepD rfl F rfl (o_assign (F.ev rfl) ?_); clear F; clear a; intro a F
    with_reducible refine l_nil ?_
    with_reducible refine q_then ?_
    with_reducible refine c_ret ?_
    refine p_ret F rfl (.cons (.tmp (F.ev rfl)) .nil) ?_
    exact ⟨rfl, M.ext⟩
end Go.Proofs.Ytainnefmobfcjaa
/-! FF -/
namespace Go.Proofs.Ytainnefmobfcjaa
set_option linter.unusedVariables false
set_option linter.unusedSimpArgs false
open Go.RowKit
attribute [local irreducible] OpTo wpListIn Code.wpIn MW Cal
def wip0 (xs : List Int) (k : Nat) : List Int := [32, 1, 13, 184, 0, nxV xs k 2, nxV xs (nxK xs k) 2, 0, 0, 0, 0, 0, 0, 0, 0, nxV xs (nxK xs (nxK xs k)) 6]
def wip4 (xs : List Int) (k : Nat) : Nat := nxK xs (nxK xs (nxK xs (nxK xs k)))
def wipV (xs : List Int) (k : Nat) : List Int := if boolV xs (nxK xs (nxK xs (nxK xs k))) 9 then (wip0 xs k).set (nxV xs (wip4 xs k) 16).toNat (bitsOf .xor .u8 ((wip0 xs k).getD (nxV xs (wip4 xs k) 16).toNat 0) (IntKind.u8.wrap (1 * 2 ^ min (nxV xs (nxK xs (wip4 xs k)) 8).toNat IntKind.u8.bits))) else wip0 xs k
def wipK (xs : List Int) (k : Nat) : Nat := if boolV xs (nxK xs (nxK xs (nxK xs k))) 9 then nxK xs (nxK xs (wip4 xs k)) else wip4 xs k
theorem wip0_is (xs : List Int) (k : Nat) : IsIP (wip0 xs k) := by
  have h1 := nxV_bd xs k (n := 2) (by omega)
  have h2 := nxV_bd xs (nxK xs k) (n := 2) (by omega)
  have h3 := nxV_bd xs (nxK xs (nxK xs k)) (n := 6) (by omega)
  exact ⟨rfl, by intro x hx; simp [wip0] at hx; omega⟩
theorem wipV_is (xs : List Int) (k : Nat) : IsIP (wipV xs k) := by
  unfold wipV
  split
  · exact (wip0_is xs k).set _ (xor8_bd _ _).1 (xor8_bd _ _).2
  · exact wip0_is xs k
set_option maxHeartbeats 1000000 in
theorem wipD_c {bt : Nat} {p : Option Addr} {len cap k : Nat} {xs : List Int} (W : World) (hT : TapeS W bt p len xs) (hb : W.heap[bt]? = some (tobj p len cap k)) :
    Cal Try.prog 10 [.pointer (some ⟨bt, 0, none⟩)].toArray W fun v w' => v = .agg (ipC (wipV xs k)).toArray ∧ Mem [bt] W w' [(bt, tobj p len cap (wipK xs k))] := by
  refine fn_ofM (n := 28) [bt] Try.func10 rfl rfl rfl ?_
  intro a w F M hwW
  replace M := M.came hwW hb (by simp) (by simp)
  refine c_seq ?_
  refine c_region ?_
  (refine stepD rfl F rfl (o_alloc M ?_); clear F; clear M; intro b2 w M a F)
  with_reducible refine l_nil ?_
  with_reducible refine q_then ?_
  with_reducible refine c_seq ?_
  with_reducible refine c_region ?_
  refine stepD rfl F rfl (o_move (F.ev rfl) ?_); clear F; clear a; intro a F
  (refine stepD rfl F rfl (o_call (F.ev rfl) (F.evs rfl) (Cal.mono (next_c 2 (by omega) (by omega) _ (hT.later M.ext) (M.heap (.there .here)) ) ?_)); clear F; clear a; have M0 := M; clear M; rintro _ w ⟨rfl, N⟩ a F)
  have hx1 := nxV_bd xs k (n := 2) (by omega)
  replace M := M0.turn1 N (.there .here)
  refine stepD rfl F rfl (o_conv (F.ev rfl) (w_u8 (by omega) (by omega)) ?_); clear F; clear a; intro a F
  refine stepD rfl F rfl (o_move (F.ev rfl) ?_); clear F; clear a; intro a F
  (refine stepD rfl F rfl (o_call (F.ev rfl) (F.evs rfl) (Cal.mono (next_c 2 (by omega) (by omega) _ (hT.later M.ext) (M.heap (.there .here)) ) ?_)); clear F; clear a; have M0 := M; clear M; rintro _ w ⟨rfl, N⟩ a F)
  have hx2 := nxV_bd xs (nxK xs k) (n := 2) (by omega)
  replace M := M0.turn1 N (.there .here)
  refine stepD rfl F rfl (o_conv (F.ev rfl) (w_u8 (by omega) (by omega)) ?_); clear F; clear a; intro a F
  refine stepD rfl F rfl (o_build F rfl rfl ?_); clear F; clear a; intro a F
  (refine stepD rfl F rfl (o_alloc M ?_); clear F; clear M; intro b3 w M a F)
  (refine stepN rfl F (o_storeA M (F.ev rfl) (F.ev rfl) (by rfl) (by rfl) (by repeat (first | exact .here | apply Has.there)) (by rfl) (by repeat (first | exact .here | apply Upd.there)) ?_); clear F; clear M; intro w M a F)
  with_reducible refine l_nil ?_
  with_reducible refine q_then ?_
  with_reducible refine c_seq ?_
  with_reducible refine c_region ?_
  refine stepD rfl F rfl (o_move (F.ev rfl) ?_); clear F; clear a; intro a F
  (refine stepD rfl F rfl (o_call (F.ev rfl) (F.evs rfl) (Cal.mono (next_c 6 (by omega) (by omega) _ (hT.later M.ext) (M.heap (.there (.there .here))) ) ?_)); clear F; clear a; have M0 := M; clear M; rintro _ w ⟨rfl, N⟩ a F)
  have hx3 := nxV_bd xs (nxK xs (nxK xs k)) (n := 6) (by omega)
  replace M := M0.turn1 N (.there (.there .here))
  refine stepD rfl F rfl (o_conv (F.ev rfl) (w_u8 (by omega) (by omega)) ?_); clear F; clear a; intro a F
  refine stepD rfl F rfl (o_indexArr (F.ev rfl) (F.ev rfl) (by omega) (by omega) ?_); clear F; clear a; intro a F
  (refine stepN rfl F (o_store1 M (F.ev rfl) (F.ev rfl) rfl (by repeat (first | exact .here | apply Has.there)) (by rfl) (by repeat (first | exact .here | apply Upd.there)) ?_); clear F; clear M; intro w M a F)
  with_reducible refine l_nil ?_
  with_reducible refine q_then ?_
  with_reducible refine c_seq ?_
  with_reducible refine c_seq ?_
  with_reducible refine c_region ?_
  refine stepD rfl F rfl (o_move (F.ev rfl) ?_); clear F; clear a; intro a F
  obtain ⟨ip, hipd, hip, M⟩ : ∃ ip, ip = wip0 xs k ∧ IsIP ip ∧ Mem [bt] W w [(bt, tobj p len cap (nxK xs (nxK xs (nxK xs k)))), (b3, .cells (ipC ip).toArray 26 (0, 0)), (b2, .cells (ipC [0, 0, 0, 0, 0, 0, 0, 0, 0, 0, 0, 0, 0, 0, 0, 0]).toArray 26 (0, 0))] :=
    ⟨wip0 xs k, rfl, ⟨rfl, by intro x hx; simp [wip0] at hx; omega⟩, M.perm ((List.Perm.refl _).trans (List.perm_append_comm (l₁ := [_, _]) (l₂ := [_])))⟩
  (refine stepD rfl F rfl (o_call (F.ev rfl) (F.evs rfl) (Cal.mono (bool_c 9 (by omega) (by omega) _ (hT.later M.ext) (M.heap .here) ) ?_)); clear F; clear a; have M0 := M; clear M; rintro _ w ⟨rfl, N⟩ a F)
  replace M := M0.turn1 N .here
  clear M0
  have e0 : seg (ipC ip) 0 16 = some (ipC ip) := seg_all (ipC_len hip.len)
  rw [show nxK xs (nxK xs (nxK xs (nxK xs k))) = wip4 xs k from rfl] at M
  obtain ⟨k4, hk4⟩ : ∃ k4, k4 = wip4 xs k := ⟨_, rfl⟩
  rw [← hk4] at M
  cases hc : boolV xs (nxK xs (nxK xs (nxK xs k))) 9
  all_goals rw [hc] at F
  · with_reducible refine l_nil ?_
    with_reducible refine q_then ?_
    refine c_false F rfl rfl ?_
    with_reducible refine c_skip ?_
    with_reducible refine q_then ?_
    with_reducible refine c_seq ?_
    with_reducible refine c_region ?_
    refine stepD rfl F rfl (o_loadA M (F.ev rfl) (by repeat (first | exact .here | apply Has.there)) (by first | assumption | rfl) ?_); clear F; clear a; intro a F
    (refine stepN rfl F (o_storeA M (F.ev rfl) (F.ev rfl) (ipC_len hip.len) (one_ip _)  (by repeat (first | exact .here | apply Has.there))  (put_all (by rw [ipC_len hip.len]; rfl)) (by repeat (first | exact .here | apply Upd.there)) ?_); clear F; clear M; intro w M a F)
    with_reducible refine l_nil ?_
    with_reducible refine q_then ?_
    with_reducible refine c_ret ?_
    exact p_ret F rfl (.cons (.cell (F.ev rfl) (run_loadVar_agg TAgg.h (M.heap (.there (.there .here))) e0)) .nil) ⟨by rw [show wipV xs k = ip by rw [hipd]; unfold wipV; rw [if_neg (by simp [hc])]]; rfl, by rw [show wipK xs k = k4 by rw [hk4]; unfold wipK; rw [if_neg (by simp [hc])]]; exact M.sub (.cons_cons _ (.cons _ (.cons _ (.refl _))))⟩
  · replace F := F.only [0, 2, 3, 16] rfl
    have v1 := nxV_bd xs k4 (n := 16) (by omega)
    have v2 := nxV_bd xs (nxK xs k4) (n := 8) (by omega)
    have hib := hip.at_ (nxV xs k4 16).toNat
    have h1 : nth (ipC ip) (0 + (nxV xs k4 16).toNat * 1) = some (.int .u8 (ip.getD (nxV xs k4 16).toNat 0)) := nth_ip2 hip (by omega) (by omega)
    with_reducible refine l_nil ?_
    with_reducible refine q_then ?_
    refine c_true F rfl rfl ?_
    refine c_drawB (l0 := [(bt, tobj p len cap k4)]) [bt] [1, 5] M 9 F (by kernel_rfl) ?_
    intro w1 M1 hok hef
    have hB : ∀ k ∈ [bt], k ∈ ([(bt, tobj p len cap k4)] : List (Nat × Obj)).map (·.1) := by simp
    have hTw : ∀ w', Ext [bt] w1 w' → TapeS w' bt p len xs := fun w' E => hT.later (M1.ext.trans (E.mono (by simp)))
    refine mK hok rfl rfl (fun a' w' F' E' => o_move (F'.ev rfl) ⟨Ext.refl _ _, rfl⟩) ?_
    refine mE (T' := fun _ w => Mem _ _ w ([(bt, tobj p len cap (nxK xs k4))] ++ _)) hok rfl rfl (fun _ _ _ h k => h.later k) (fun a' w' σ' F' E' T' => o_call (F'.ev rfl) (F'.evs rfl) (Cal.mono (next_c 16 (by omega) (by omega) _ (hTw _ E') (T'.heap .here)) fun _ _ hh => ⟨hh.2.ext, hh.1, Mem.turn1 T' hh.2 .here⟩)) ?_
    refine mK hok rfl rfl (fun a' w' F' E' => o_indexArr (F'.ev rfl) (F'.ev rfl) (by omega) (by omega) ⟨Ext.refl _ _, rfl⟩) ?_
    refine mK hok rfl rfl (fun a' w' F' E' => o_load1 (M1.laterBut E' hB) (F'.ev rfl) (by repeat (first | exact .here | apply Has.there)) (by first | assumption | rfl) ⟨Ext.refl _ _, rfl⟩) ?_
    refine mK hok rfl rfl (fun a' w' F' E' => o_move (F'.ev rfl) ⟨Ext.refl _ _, rfl⟩) ?_
    refine mE (T' := fun _ w => Mem _ _ w ([(bt, tobj p len cap (nxK xs (nxK xs k4)))] ++ _)) hok rfl rfl (fun _ _ _ h k => h.later k) (fun a' w' σ' F' E' T' => o_call (F'.ev rfl) (F'.evs rfl) (Cal.mono (next_c 8 (by omega) (by omega) _ (hTw _ E') (T'.heap .here)) fun _ _ hh => ⟨hh.2.ext, hh.1, Mem.turn1 T' hh.2 .here⟩)) ?_
    refine mK hok rfl rfl (fun a' w' F' E' => o_conv (F'.ev rfl) (w_u64 (by omega) (by omega)) ⟨Ext.refl _ _, rfl⟩) ?_
    refine mK hok rfl rfl (fun a' w' F' E' => o_shl (F'.ev rfl) (F'.ev rfl) (by omega) rfl ⟨Ext.refl _ _, rfl⟩) ?_
    refine mK hok rfl rfl (fun a' w' F' E' => o_xor (F'.ev rfl) (F'.ev rfl) rfl ⟨Ext.refl _ _, rfl⟩) ?_
    clear hTw
    (refine mDone rfl hef ?_; clear F; clear M; intro a w F hE2 hX M hDD hPP; clear M1; clear hX; clear hE2; clear hok; clear hef; clear hB; clear hDD; clear hPP; (try dsimp only at F); (try simp only [List.cons_append, List.nil_append] at M))
    have hbd := xor8_bd (ip.getD (nxV xs k4 16).toNat 0) (IntKind.u8.wrap (1 * 2 ^ min (nxV xs (nxK xs k4) 8).toNat IntKind.u8.bits))
    obtain ⟨z, hz⟩ : ∃ z, z = bitsOf BinOp.xor IntKind.u8 (ip.getD (nxV xs k4 16).toNat 0) (IntKind.u8.wrap (1 * 2 ^ min (nxV xs (nxK xs k4) 8).toNat IntKind.u8.bits)) := ⟨_, rfl⟩
    rw [← hz] at F hbd
    refine stepD rfl F rfl (o_indexArr (F.ev rfl) (F.ev rfl) (by omega) (by omega) ?_); clear F; clear a; intro a F
    (refine stepN rfl F (o_store1 M (F.ev rfl) (F.ev rfl) rfl (by repeat (first | exact .here | apply Has.there)) (put1 (q := (nxV xs k4 16).toNat) _ (by omega) (by rw [ipC_len hip.len]; omega)) (by repeat (first | exact .here | apply Upd.there)) ?_); clear F; clear M; intro w M a F)
    rw [← ipC_set] at M
    have hip2 := hip.set (nxV xs k4 16).toNat hbd.1 hbd.2
    obtain ⟨ip2, hi2⟩ : ∃ ip2, ip2 = ip.set (nxV xs k4 16).toNat z := ⟨_, rfl⟩
    rw [← hi2] at M hip2
    have e2 : seg (ipC ip2) 0 16 = some (ipC ip2) := seg_all (ipC_len hip2.len)
    with_reducible refine l_nil ?_
    with_reducible refine q_then ?_
    with_reducible refine c_seq ?_
    with_reducible refine c_region ?_
    refine stepD rfl F rfl (o_loadA M (F.ev rfl) (by repeat (first | exact .here | apply Has.there)) (by first | assumption | rfl) ?_); clear F; clear a; intro a F
    (refine stepN rfl F (o_storeA M (F.ev rfl) (F.ev rfl) (ipC_len hip2.len) (one_ip _)  (by repeat (first | exact .here | apply Has.there))  (put_all (by rw [ipC_len hip2.len]; rfl)) (by repeat (first | exact .here | apply Upd.there)) ?_); clear F; clear M; intro w M a F)
    with_reducible refine l_nil ?_
    with_reducible refine q_then ?_
    with_reducible refine c_ret ?_
    exact p_ret F rfl (.cons (.cell (F.ev rfl) (run_loadVar_agg TAgg.h (M.heap (.there (.there .here))) e2)) .nil) ⟨by rw [show wipV xs k = ip2 by rw [hi2, hz, hipd, hk4]; unfold wipV; rw [if_pos hc]]; rfl, by rw [show wipK xs k = nxK xs (nxK xs k4) by rw [hk4]; unfold wipK; rw [if_pos hc]]; exact M.sub (.cons_cons _ (.cons _ (.cons _ (.refl _))))⟩
end Go.Proofs.Ytainnefmobfcjaa
/-! FG -/
namespace Go.Proofs.Ytainnefmobfcjaa
set_option linter.unusedVariables false
set_option linter.unusedSimpArgs false
open Go.RowKit
attribute [local irreducible] OpTo wpListIn Code.wpIn MW Cal
def wtV (xs : List Int) (k : Nat) (base : Int) : Int := if 0 < (if base + nxV xs k 60 - 30 < 1099511627776 then base + nxV xs k 60 - 30 else 1099511627776) then (if base + nxV xs k 60 - 30 < 1099511627776 then base + nxV xs k 60 - 30 else 1099511627776) else 0
theorem wtime_c {bt : Nat} {p : Option Addr} {len cap k : Nat} {xs : List Int} (base : Int) (h0 : 0 ≤ base) (h1 : base ≤ 1099511627776) (W : World) (hT : TapeS W bt p len xs) (hb : W.heap[bt]? = some (tobj p len cap k)) :
    Cal Try.prog 28 [.pointer (some ⟨bt, 0, none⟩), .int .i64 base].toArray W fun v w' => v = .int .i64 (wtV xs k base) ∧ Mem [bt] W w' [(bt, tobj p len cap (nxK xs k))] := by
  refine fn_ofM (n := 12) [bt] Try.func28 rfl rfl rfl ?_
  intro a w F M hwW
  replace M := M.came hwW hb (by simp) (by simp)
  have hx := nxV_bd xs k (n := 60) (by omega)
  with_reducible refine c_seq ?_
  with_reducible refine c_region ?_
  refine stepD rfl F rfl (o_assign (F.ev rfl) ?_); clear F; clear a; intro a F
  with_reducible refine l_nil ?_
  with_reducible refine q_then ?_
  with_reducible refine c_seq ?_
  with_reducible refine c_region ?_
  refine stepD rfl F rfl (o_move (F.ev rfl) ?_); clear F; clear a; intro a F
  refine stepD rfl F rfl (o_move (F.ev rfl) ?_); clear F; clear a; intro a F
  (refine stepD rfl F rfl (o_call (F.ev rfl) (F.evs rfl) (Cal.mono (next_c 60 (by omega) (by omega) _ (hT.later M.ext) (M.heap .here) ) ?_)); clear F; clear a; have M0 := M; clear M; rintro _ w ⟨rfl, N⟩ a F)
  replace M := M0.turn1 N .here
  clear M0
  refine stepD rfl F rfl (o_add (F.ev rfl) (F.ev rfl) (w_i64 (by omega) (by omega)) ?_); clear F; clear a; intro a F
  refine stepD rfl F rfl (o_sub (F.ev rfl) (F.ev rfl) (w_i64 (by omega) (by omega)) ?_); clear F; clear a; intro a F
  refine stepD rfl F rfl (o_min (F.ev rfl) (F.ev rfl) ?_); clear F; clear a; intro a F
  refine stepD rfl F rfl (o_max (F.ev rfl) (F.ev rfl) ?_); clear F; clear a; intro a F
  refine stepD rfl F rfl (o_assign (F.ev rfl) ?_); clear F; clear a; intro a F
  with_reducible refine l_nil ?_
  with_reducible refine q_then ?_
  with_reducible refine c_ret ?_
  refine p_ret F rfl (.cons (.tmp (F.ev rfl)) .nil) ?_
  exact ⟨rfl, M⟩
theorem nth_tab {k : IntKind} {xs : List Int} {i : Int} (h0 : 0 ≤ i) (h1 : i < xs.length) : nth (xs.map (Value.int k)) (0 + i.toNat * 1) = some (.int k (xs.getD i.toNat 0)) := by
  have h : i.toNat < xs.length := by omega
  rw [nth_spec, show 0 + i.toNat * 1 = i.toNat by omega]
  simp [h]
def tab10 : List Int := [128, 128, 64, 56, 48, 32, 0, 127, 3, 60]
theorem tab10_bd (i : Nat) : 0 ≤ tab10.getD i 0 ∧ tab10.getD i 0 ≤ 128 := by
  rcases Nat.lt_or_ge i 10 with h | h
  · have : ∀ i : Fin 10, 0 ≤ tab10.getD i.val 0 ∧ tab10.getD i.val 0 ≤ 128 := by decide
    exact this ⟨i, h⟩
  · rw [List.getD_eq_getElem?_getD, List.getElem?_eq_none (by simpa [tab10] using h)]
    simp
/-- a prefix off the tape -/
def wpN (xs : List Int) (k : Nat) : Int := if boolV xs (nxK xs k) 7 then nxV xs (nxK xs (nxK xs k)) 129 else tab10.getD (nxV xs k 10).toNat 0
def wpK0 (xs : List Int) (k : Nat) : Nat := if boolV xs (nxK xs k) 7 then nxK xs (nxK xs (nxK xs k)) else nxK xs (nxK xs k)
def wpA (xs : List Int) (k : Nat) : List Int := wipV xs (wpK0 xs k)
def wpK (xs : List Int) (k : Nat) : Nat := wipK xs (wpK0 xs k)
theorem wpN_bd (xs : List Int) (k : Nat) : 0 ≤ wpN xs k ∧ wpN xs k ≤ 128 := by
  have h1 := nxV_bd xs (nxK xs (nxK xs k)) (n := 129) (by omega)
  unfold wpN
  split
  · omega
  · exact tab10_bd _
theorem wpA_is (xs : List Int) (k : Nat) : IsIP (maskI (wpA xs k) (wpN xs k)) := mask_isIP (wipV_is _ _) _
set_option maxHeartbeats 1000000 in
theorem wprefix_c {bt : Nat} {p : Option Addr} {len cap k : Nat} {xs : List Int} (W : World) (hT : TapeS W bt p len xs) (hb : W.heap[bt]? = some (tobj p len cap k)) :
    Cal Try.prog 61 [.pointer (some ⟨bt, 0, none⟩)].toArray W fun v w' => v = .agg (pfC (maskI (wpA xs k) (wpN xs k)) (wpN xs k)).toArray ∧ Mem [bt] W w' [(bt, tobj p len cap (wpK xs k))] := by
  have v1 := nxV_bd xs k (n := 10) (by omega)
  have v3 := nxV_bd xs (nxK xs (nxK xs k)) (n := 129) (by omega)
  have n1 := nth_tab (k := .i64) (xs := tab10) v1.1 (by simpa [tab10] using v1.2)
  have hbd := wpN_bd xs k
  have hcl : clampB (wpN xs k) = wpN xs k := clamp_in hbd.1 hbd.2
  have s3 := seg_pf (maskI_len (wpA xs k) (wpN xs k)) (wpN xs k)
  refine fn_ofM (n := 17) [bt] Try.func61 rfl rfl rfl ?_
  intro a w F M hwW
  replace M := M.came hwW hb (by simp) (by simp)
  refine c_seq ?_
  refine c_region ?_
  (refine stepD rfl F rfl (o_alloc M ?_); clear F; clear M; intro b2 w M a F)
  with_reducible refine l_nil ?_
  with_reducible refine q_then ?_
  with_reducible refine c_seq ?_
  with_reducible refine c_region ?_
  (refine stepD rfl F rfl (o_buildSlice F M rfl rfl rfl rfl ?_); clear F; clear M; intro b4 w M a F)
  refine stepD rfl F rfl (o_move (F.ev rfl) ?_); clear F; clear a; intro a F
  (refine stepD rfl F rfl (o_call (F.ev rfl) (F.evs rfl) (Cal.mono (next_c 10 (by omega) (by omega) _ (hT.later M.ext) (M.heap (.there (.there .here))) ) ?_)); clear F; clear a; have M0 := M; clear M; rintro _ w ⟨rfl, N⟩ a F)
  replace M := M0.turn1 N (.there (.there .here))
  (refine stepD rfl F rfl (o_indexSl (F.ev rfl) (F.ev rfl) (by omega) (by omega) ?_); clear F; clear a; intro a F)
  (refine stepD rfl F rfl (o_load1 M (F.ev rfl) (by repeat (first | exact .here | apply Has.there)) (n1) ?_); clear F; clear a; intro a F)
  refine stepD rfl F rfl (o_assign (F.ev rfl) ?_); clear F; clear a; intro a F
  with_reducible refine l_nil ?_
  with_reducible refine q_then ?_
  with_reducible refine c_seq ?_
  with_reducible refine c_seq ?_
  with_reducible refine c_region ?_
  refine stepD rfl F rfl (o_move (F.ev rfl) ?_); clear F; clear a; intro a F
  (refine stepD rfl F rfl (o_call (F.ev rfl) (F.evs rfl) (Cal.mono (bool_c 7 (by omega) (by omega) _ (hT.later M.ext) (M.heap (.there (.there .here))) ) ?_)); clear F; clear a; have M0 := M; clear M; rintro _ w ⟨rfl, N⟩ a F)
  replace M := M0.turn1 N (.there (.there .here))
  cases hc : boolV xs (nxK xs k) 7
  · rw [hc] at F
    have hN : wpN xs k = tab10.getD (nxV xs k 10).toNat 0 := by unfold wpN; rw [hc]; rfl
    have hK : wpK0 xs k = nxK xs (nxK xs k) := by unfold wpK0; rw [hc]; rfl
    rw [← hK] at M
    rw [← hN] at F
    with_reducible refine l_nil ?_
    with_reducible refine q_then ?_
    refine c_false F rfl rfl ?_
    with_reducible refine c_skip ?_
    with_reducible refine q_then ?_
    with_reducible refine c_seq ?_
    with_reducible refine c_region ?_
    refine stepD rfl F rfl (o_move (F.ev rfl) ?_); clear F; clear a; intro a F
    (refine stepD rfl F rfl (o_call (F.ev rfl) (F.evs rfl) (Cal.mono (wipD_c _ (hT.later M.ext) (M.heap (.there (.there .here))) ) ?_)); clear F; clear a; have M0 := M; clear M; rintro _ w ⟨rfl, N⟩ a F)
    replace M := M0.turn1 N (.there (.there .here))
    refine stepD rfl F rfl (o_move (F.ev rfl) ?_); clear F; clear a; intro a F
    (refine stepD rfl F rfl (o_call (F.ev rfl) (F.evs rfl) (Cal.mono (Cal.to (rmask_c (wpA xs k) (wipV_is _ _) (wpN xs k) _) (by rw [hcl])) ?_)); clear F; clear a; rintro _ w ⟨rfl, hE⟩ a F; replace M := M.later hE; clear hE)
    (refine stepN rfl F (o_storeA M (F.ev rfl) (F.ev rfl) (pfC_len (maskI_len _ _) _) (one_pf _ _)  (by repeat (first | exact .here | apply Has.there))  (put_all (by rw [pfC_len (maskI_len (wpA xs k) (wpN xs k)) (wpN xs k)]; rfl)) (by repeat (first | exact .here | apply Upd.there)) ?_); clear F; clear M; intro w M a F)
    with_reducible refine l_nil ?_
    with_reducible refine q_then ?_
    with_reducible refine c_ret ?_
    refine p_ret F rfl (.cons (.cell (F.ev rfl) (run_loadVar_agg TAgg.h (M.heap (by repeat (first | exact .here | apply Has.there))) s3)) .nil) ⟨rfl, M.sub (by repeat (first | exact List.Sublist.refl _ | apply List.Sublist.cons))⟩
  · rw [hc] at F
    have hN : wpN xs k = nxV xs (nxK xs (nxK xs k)) 129 := by unfold wpN; rw [hc]; rfl
    have hK : wpK0 xs k = nxK xs (nxK xs (nxK xs k)) := by unfold wpK0; rw [hc]; rfl
    with_reducible refine l_nil ?_
    with_reducible refine q_then ?_
    refine c_true F rfl rfl ?_
    with_reducible refine c_region ?_
    refine stepD rfl F rfl (o_move (F.ev rfl) ?_); clear F; clear a; intro a F
    (refine stepD rfl F rfl (o_call (F.ev rfl) (F.evs rfl) (Cal.mono (next_c 129 (by omega) (by omega) _ (hT.later M.ext) (M.heap (.there (.there .here))) ) ?_)); clear F; clear a; have M0 := M; clear M; rintro _ w ⟨rfl, N⟩ a F)
    replace M := M0.turn1 N (.there (.there .here))
    rw [← hK] at M
    rw [← hN] at F
    refine stepD rfl F rfl (o_assign (F.ev rfl) ?_); clear F; clear a; intro a F
    with_reducible refine l_nil ?_
    with_reducible refine q_then ?_
    with_reducible refine c_seq ?_
    with_reducible refine c_region ?_
    refine stepD rfl F rfl (o_move (F.ev rfl) ?_); clear F; clear a; intro a F
    (refine stepD rfl F rfl (o_call (F.ev rfl) (F.evs rfl) (Cal.mono (wipD_c _ (hT.later M.ext) (M.heap (.there (.there .here))) ) ?_)); clear F; clear a; have M0 := M; clear M; rintro _ w ⟨rfl, N⟩ a F)
    replace M := M0.turn1 N (.there (.there .here))
    refine stepD rfl F rfl (o_move (F.ev rfl) ?_); clear F; clear a; intro a F
    (refine stepD rfl F rfl (o_call (F.ev rfl) (F.evs rfl) (Cal.mono (Cal.to (rmask_c (wpA xs k) (wipV_is _ _) (wpN xs k) _) (by rw [hcl])) ?_)); clear F; clear a; rintro _ w ⟨rfl, hE⟩ a F; replace M := M.later hE; clear hE)
    (refine stepN rfl F (o_storeA M (F.ev rfl) (F.ev rfl) (pfC_len (maskI_len _ _) _) (one_pf _ _)  (by repeat (first | exact .here | apply Has.there))  (put_all (by rw [pfC_len (maskI_len (wpA xs k) (wpN xs k)) (wpN xs k)]; rfl)) (by repeat (first | exact .here | apply Upd.there)) ?_); clear F; clear M; intro w M a F)
    with_reducible refine l_nil ?_
    with_reducible refine q_then ?_
    with_reducible refine c_ret ?_
    refine p_ret F rfl (.cons (.cell (F.ev rfl) (run_loadVar_agg TAgg.h (M.heap (by repeat (first | exact .here | apply Has.there))) s3)) .nil) ⟨rfl, M.sub (by repeat (first | exact List.Sublist.refl _ | apply List.Sublist.cons))⟩
end Go.Proofs.Ytainnefmobfcjaa
/-! FH -/
namespace Go.Proofs.Ytainnefmobfcjaa
set_option linter.unusedVariables false
set_option linter.unusedSimpArgs false
open Go.RowKit
attribute [local irreducible] OpTo wpListIn Code.wpIn MW Cal
theorem of_build3 {o : OffH} (h : IsOf o) : putAll [(0, 16), (16, 1), (17, 1), (18, 1), (19, 1)] ofZ [(0, ipC o.rt), (1, [.int .i64 o.ver]), (2, [.int .i64 o.til])] = some (ofC o (.slice none 0 0) (.slice none 0 0)) := by
  obtain ⟨f_rt, f_ver, f_til⟩ := o
  obtain ⟨x0_0, x0_1, x0_2, x0_3, x0_4, x0_5, x0_6, x0_7, x0_8, x0_9, x0_10, x0_11, x0_12, x0_13, x0_14, x0_15, e0⟩ := len16 (show f_rt.length = 16 from (h).len)
  subst e0
  rfl
theorem NewS.staysBut {n0 len cap : Nat} {o : Obj} {T : List Nat} (hT : ∀ k ∈ T, k < n0) : Stays (keepBut T) (NewS n0 len cap o) := fun v w w' ⟨b, h1, h2, h3⟩ h => ⟨b, h1, h2, by
  rw [Ext.block h b (Array.getElem?_eq_some_iff.1 h3).1 (fun hb => by have := hT b hb; omega)]; exact h3⟩
theorem newSB_of {T : List Nat} {w1 w w' : World} {len cap : Nat} {o : Obj} {x : Value} (E : Ext T w1 w) (h : ∃ b, x = .slice (some ⟨b, 0, none⟩) len cap ∧ Mem [] w w' [(b, o)]) : Ext [] w w' ∧ NewS w1.heap.size len cap o x w' := by
  obtain ⟨b, rfl, N⟩ := h
  refine ⟨N.ext, b, rfl, ?_, N.heap .here⟩
  have := (N.own (b, o) (by simp)).resolve_left (by simp)
  exact Nat.le_trans E.size this
/-- a pointer into a new block -/
def NewA (n0 off : Nat) (o : Obj) : Pred := fun v w => ∃ b, v = .pointer (some ⟨b, off, none⟩) ∧ n0 ≤ b ∧ w.heap[b]? = some o
theorem NewA.staysBut {n0 off : Nat} {o : Obj} {T : List Nat} (hT : ∀ k ∈ T, k < n0) : Stays (keepBut T) (NewA n0 off o) := fun v w w' ⟨b, h1, h2, h3⟩ h => ⟨b, h1, h2, by
  rw [Ext.block h b (Array.getElem?_eq_some_iff.1 h3).1 (fun hb => by have := hT b hb; omega)]; exact h3⟩
theorem Mem.empty (w : World) : Mem [] w w [] := ⟨Ext.refl _ _, fun p hp => (by cases hp), by simp, fun p hp => (by cases hp)⟩
def tab5 : List Int := [64, 64, 64, 48, 128]
theorem tab5_bd (i : Nat) : 0 ≤ tab5.getD i 0 ∧ tab5.getD i 0 ≤ 128 := by
  rcases Nat.lt_or_ge i 5 with h | h
  · have : ∀ i : Fin 5, 0 ≤ tab5.getD i.val 0 ∧ tab5.getD i.val 0 ≤ 128 := by decide
    exact this ⟨i, h⟩
  · rw [List.getD_eq_getElem?_getD, List.getElem?_eq_none (by simpa [tab5] using h)]
    simp
theorem OwnS.newVB {e : TypeId} {sz n : Nat} {v : Value} {xs : List Value} {ent : List (Nat × Obj)} (h : OwnS e sz v n xs ent) {S : List Nat} {W0 w : World} {l : List (Nat × Obj)} (M : Mem S W0 w l) (hs : ∀ p ∈ ent, p ∈ l) (hS : ∀ p ∈ ent, p.1 ∉ S) : NewV W0.heap.size v := by
  rcases h with ⟨rfl, _, _, rfl⟩ | ⟨b, cap, junk, rfl, rfl, _, _, _⟩
  · exact NewV.nil _ _ _
  · intro b' o s n c h
    cases h
    exact (M.own _ (hs _ List.mem_cons_self)).resolve_left (hS _ List.mem_cons_self)
/-- an offer in new memory -/
def OffNew (n0 : Nat) (W : World) (x : OV) : Prop := OffAt W x ∧ NewV n0 x.u ∧ NewV n0 x.v
set_option maxHeartbeats 8000000 in
theorem woffer_c {bt : Nat} {p : Option Addr} {len cap k : Nat} {xs : List Int} (base : Int) (h0 : 0 ≤ base) (h1 : base ≤ 1099511627776) (W : World) (hT : TapeS W bt p len xs) (hb : W.heap[bt]? = some (tobj p len cap k)) :
    Cal Try.prog 26 [.pointer (some ⟨bt, 0, none⟩), .int .i64 base].toArray W fun r w' => ∃ x k', r = .agg (ovC x).toArray ∧ IsOff x.o ∧ (x.o.ps.length ≤ 3 ∧ x.o.cs.length ≤ 2) ∧ OffNew W.heap.size w' x ∧ Mem [bt] W w' [(bt, tobj p len cap k')] := by
  refine fn_ofM (n := 70) [bt] Try.func26 rfl rfl rfl ?_
  intro a w F M hwW
  replace M := M.came hwW hb (by simp) (by simp)
  refine c_seq ?_
  refine c_region ?_
  (refine stepD rfl F rfl (o_alloc M ?_); clear F; clear M; intro b4 w M a F)
  with_reducible refine l_nil ?_
  with_reducible refine q_then ?_
  with_reducible refine c_seq ?_
  with_reducible refine c_region ?_
  refine stepD rfl F rfl (o_move (F.ev rfl) ?_); clear F; clear a; intro a F
  (refine stepD rfl F rfl (o_call (F.ev rfl) (F.evs rfl) (Cal.mono (wipD_c _ (hT.later M.ext) (M.heap (.there .here)) ) ?_)); clear F; clear a; have M0 := M; clear M; rintro _ w ⟨rfl, N⟩ a F)
  replace M := M0.turn1 N (.there .here)
  refine stepD rfl F rfl (o_move (F.ev rfl) ?_); clear F; clear a; intro a F
  (refine stepD rfl F rfl (o_call (F.ev rfl) (F.evs rfl) (Cal.mono (next_c 4 (by omega) (by omega) _ (hT.later M.ext) (M.heap (.there .here)) ) ?_)); clear F; clear a; have M0 := M; clear M; rintro _ w ⟨rfl, N⟩ a F)
  replace M := M0.turn1 N (.there .here)
  refine stepD rfl F rfl (o_move (F.ev rfl) ?_); clear F; clear a; intro a F
  refine stepD rfl F rfl (o_move (F.ev rfl) ?_); clear F; clear a; intro a F
  (refine stepD rfl F rfl (o_call (F.ev rfl) (F.evs rfl) (Cal.mono (wtime_c base h0 h1 _ (hT.later M.ext) (M.heap (.there .here)) ) ?_)); clear F; clear a; have M0 := M; clear M; rintro _ w ⟨rfl, N⟩ a F)
  replace M := M0.turn1 N (.there .here)
  clear M0
  obtain ⟨h, hh0⟩ : ∃ h : OffH, h = ⟨wipV xs k, nxV xs (wipK xs k) 4, wtV xs (nxK xs (wipK xs k)) base⟩ := ⟨_, rfl⟩
  have hh : IsOf h := by rw [hh0]; exact wipV_is _ _
  have hbl := of_build3 hh
  have hb1 : h.rt = wipV xs k := by rw [hh0]
  have hb2 : h.ver = nxV xs (wipK xs k) 4 := by rw [hh0]
  have hb3 : h.til = wtV xs (nxK xs (wipK xs k)) base := by rw [hh0]
  rw [← hb1, ← hb2, ← hb3] at F
  clear hb1 hb2 hb3 hh0
  (refine stepD rfl F rfl (o_build F rfl hbl ?_); clear F; clear a; intro a F)
  (refine stepD rfl F rfl (o_alloc M ?_); clear F; clear M; intro b5 w M a F)
  (refine stepN rfl F (o_storeA M (F.ev rfl) (F.ev rfl) (of_len hh _ _) (of_one _ _ _ rfl rfl)  (by repeat (first | exact .here | apply Has.there))  (put_all (by rw [of_len hh]; rfl)) (by repeat (first | exact .here | apply Upd.there)) ?_); clear F; clear M; intro w M a F)
  with_reducible refine l_nil ?_
  with_reducible refine q_then ?_
  with_reducible refine c_seq ?_
  with_reducible refine c_seq ?_
  with_reducible refine c_region ?_
  refine stepD rfl F rfl (o_move (F.ev rfl) ?_); clear F; clear a; intro a F
  generalize nxK xs (nxK xs (wipK xs k)) = k1 at *
  (refine stepD rfl F rfl (o_call (F.ev rfl) (F.evs rfl) (Cal.mono (next_c 4 (by omega) (by omega) _ (hT.later M.ext) (M.heap (.there (.there .here))) ) ?_)); clear F; clear a; have M0 := M; clear M; rintro _ w ⟨rfl, N⟩ a F)
  replace M := M0.turn1 N (.there (.there .here))
  clear M0
  have v1 := nxV_bd xs k1 (n := 4) (by omega)
  obtain ⟨c0, hc0⟩ := Int.eq_ofNat_of_zero_le v1.1
  rw [hc0] at F v1
  have hc3 : c0 ≤ 3 := by omega
  generalize nxK xs k1 = k2 at *
  clear hc0 v1
  refine stepD rfl F rfl (o_assign (F.ev rfl) ?_); clear F; clear a; intro a F
  with_reducible refine l_nil ?_
  with_reducible refine q_then ?_
  with_reducible refine c_block ?_
  have hbt : bt < W.heap.size := (Array.getElem?_eq_some_iff.1 hb).1
  replace M : Mem [bt] W w ([(bt, tobj p len cap k2), (b5, .cells (ofC h (.slice none 0 0) (.slice none 0 0)).toArray 58 (0, 0)), (b4, .cells ofZ.toArray 58 (0, 0))] ++ []) := M.perm ((List.perm_append_comm (l₁ := [_, _]) (l₂ := [_])).trans (.of_eq rfl))
  refine c_loop (fun m a w => ∃ (c : Nat) (x : Int) (ps : List PInf) (u : Value) (eu : List (Nat × Obj)) (k : Nat), m = c ∧ x = c ∧ ps.length + c ≤ 3 ∧ (∀ q ∈ ps, IsPi q) ∧ OwnS 111 20 u ps.length (pisC ps) eu ∧ Frm a 70 [] [(6, .int .i64 x), (5, .pointer (some ⟨b5, 0, none⟩)), (4, .pointer (some ⟨b4, 0, none⟩)), (0, .pointer (some ⟨bt, 0, none⟩))] ∧ Mem [bt] W w ([(bt, tobj p len cap k), (b5, .cells (ofC h u (.slice none 0 0)).toArray 58 (0, 0)), (b4, .cells ofZ.toArray 58 (0, 0))] ++ eu)) c0 ⟨c0, _, [], _, [], k2, rfl, rfl, by simpa using hc3, by simp, OwnS.nil _ _, F.only [6, 5, 4, 0] rfl, M⟩ ?_
  clear F M hbl
  rintro m a w ⟨c, x, ps, u, eu, kk, hm, hxc, hpl, hps, hO, F, M⟩
  by_cases hlt : 0 < c
  · obtain ⟨up, uc, rfl⟩ := hO.slice
    have e18 := of_ps hh (.slice up ps.length uc) (.slice none 0 0)
    have f18 := of_put_ps hh (.slice up ps.length uc) (.slice none 0 0)
    have v1 := nxV_bd xs (wipK xs kk) (n := 5) (by omega)
    have n1 := nth_tab (k := .i64) (xs := tab5) v1.1 (by simpa [tab5] using v1.2)
    have hbd := tab5_bd (nxV xs (wipK xs kk) 5).toNat
    have hcl : clampB (tab5.getD (nxV xs (wipK xs kk) 5).toNat 0) = tab5.getD (nxV xs (wipK xs kk) 5).toNat 0 := clamp_in hbd.1 hbd.2
    have v2 := nxV_bd xs (nxK xs (nxK xs (nxK xs (wipK xs kk)))) (n := 3) (by omega)
    with_reducible refine c_seq ?_
    with_reducible refine c_seq ?_
    with_reducible refine c_region ?_
    refine stepD rfl F rfl (o_move (F.ev rfl) ?_); clear F; clear a; intro a F
    refine stepD rfl F rfl (o_gtrT (F.ev rfl) (F.ev rfl) (by omega) ?_); clear F; clear a; intro a F
    with_reducible refine l_nil ?_
    with_reducible refine q_then ?_
    refine c_true F rfl rfl ?_
    with_reducible refine c_skip ?_
    with_reducible refine q_then ?_
    with_reducible refine c_seq ?_
    with_reducible refine c_block ?_
    replace M : Mem [bt] W w ([(bt, tobj p len cap kk)] ++ ((b5, .cells (ofC h (.slice up ps.length uc) (.slice none 0 0)).toArray 58 (0, 0)) :: (b4, .cells ofZ.toArray 58 (0, 0)) :: eu)) := M
    refine c_drawB (l0 := [(bt, tobj p len cap kk)]) [bt] [3, 6, 9, 11, 13, 16] M 20 F (by kernel_rfl) ?_
    intro w1 M1 hok hef
    have hB : ∀ k ∈ [bt], k ∈ ([(bt, tobj p len cap kk)] : List (Nat × Obj)).map (·.1) := by simp
    have hbw : ∀ k ∈ [bt], k < w1.heap.size := fun k hk => by
      simp only [List.mem_singleton] at hk
      subst hk
      exact Nat.lt_of_lt_of_le hbt M1.ext.size
    have hTw : ∀ w', Ext [bt] w1 w' → TapeS w' bt p len xs := fun w' E => hT.later (M1.ext.trans (E.mono (by simp)))
    refine mK hok rfl rfl (fun a' w' F' E' => o_fieldAddr (F'.ev rfl) ⟨Ext.refl _ _, rfl⟩) ?_
    refine mK hok rfl rfl (fun a' w' F' E' => o_load1 (M1.laterBut E' hB) (F'.ev rfl) (by repeat (first | exact .here | apply Has.there)) (by first | assumption | rfl) ⟨Ext.refl _ _, rfl⟩) ?_
    refine mK hok rfl rfl (fun a' w' F' E' => o_move (F'.ev rfl) ⟨Ext.refl _ _, rfl⟩) ?_
    refine mE (T' := fun _ w => Mem _ _ w ([(bt, tobj p len cap (wipK xs kk))] ++ _)) hok rfl rfl (fun _ _ _ h k => h.later k) (fun a' w' σ' F' E' T' => o_call (F'.ev rfl) (F'.evs rfl) (Cal.mono (wipD_c _ (hTw _ E') (T'.heap .here)) fun _ _ hh => ⟨hh.2.ext, hh.1, Mem.turn1 T' hh.2 .here⟩)) ?_
    refine mX (V := NewS w1.heap.size 5 5 (.cells (i64C tab5).toArray 3 (0, 0))) hok rfl rfl (NewS.staysBut hbw) (fun a' w' F' E' D' => o_buildSlice F' (Mem.empty w') rfl rfl rfl rfl fun b w'' M'' => newSB_of E' ⟨b, rfl, M''⟩) ?_
    refine mK hok rfl rfl (fun a' w' F' E' => o_move (F'.ev rfl) ⟨Ext.refl _ _, rfl⟩) ?_
    refine mE (T' := fun _ w => Mem _ _ w ([(bt, tobj p len cap (nxK xs (wipK xs kk)))] ++ _)) hok rfl rfl (fun _ _ _ h k => h.later k) (fun a' w' σ' F' E' T' => o_call (F'.ev rfl) (F'.evs rfl) (Cal.mono (next_c 5 (by omega) (by omega) _ (hTw _ E') (T'.heap .here)) fun _ _ hh => ⟨hh.2.ext, hh.1, Mem.turn1 T' hh.2 .here⟩)) ?_
    refine mX (V := NewA w1.heap.size (0 + (nxV xs (wipK xs kk) 5).toNat * 1) (.cells (i64C tab5).toArray 3 (0, 0))) hok rfl rfl (NewA.staysBut hbw) (fun a' w' F' E' D' => by
      obtain ⟨b, g1, g2, g3⟩ := D' 4 (by decide) _ rfl
      have hev : a'.eval (.tmp 27) = .slice (some ⟨b, 0, none⟩) 5 5 := g1
      exact o_indexSl hev (F'.ev rfl) v1.1 v1.2 ⟨Ext.refl _ _, b, rfl, g2, g3⟩) ?_
    refine mKX (v := .int .i64 (tab5.getD (nxV xs (wipK xs kk) 5).toNat 0)) hok rfl rfl (fun a' w' F' E' D' => by
      obtain ⟨b, g1, g2, g3⟩ := D' 7 (by decide) _ rfl
      have hev : a'.eval (.tmp 30) = .pointer (some ⟨b, 0 + (nxV xs (wipK xs kk) 5).toNat * 1, none⟩) := g1
      exact o_loadH1 hev g3 n1 ⟨Ext.refl _ _, rfl⟩) ?_
    refine mE (T' := fun _ w => Mem _ _ w ([(bt, tobj p len cap (nxK xs (wipK xs kk)))] ++ _)) hok rfl rfl (fun _ _ _ h k => h.later k) (fun a' w' σ' F' E' T' => o_call (F'.ev rfl) (F'.evs rfl) (Cal.mono (Cal.to (rmask_c (wipV xs kk) (wipV_is _ _) (tab5.getD (nxV xs (wipK xs kk) 5).toNat 0) _) (by rw [hcl])) fun _ _ hh => ⟨hh.2.any, hh.1, T'.later hh.2⟩)) ?_
    refine mK hok rfl rfl (fun a' w' F' E' => o_move (F'.ev rfl) ⟨Ext.refl _ _, rfl⟩) ?_
    refine mE (T' := fun _ w => Mem _ _ w ([(bt, tobj p len cap (nxK xs (nxK xs (wipK xs kk))))] ++ _)) hok rfl rfl (fun _ _ _ h k => h.later k) (fun a' w' σ' F' E' T' => o_call (F'.ev rfl) (F'.evs rfl) (Cal.mono (bool_c 2 (by omega) (by omega) _ (hTw _ E') (T'.heap .here)) fun _ _ hh => ⟨hh.2.ext, hh.1, Mem.turn1 T' hh.2 .here⟩)) ?_
    refine mK hok rfl rfl (fun a' w' F' E' => o_move (F'.ev rfl) ⟨Ext.refl _ _, rfl⟩) ?_
    refine mE (T' := fun _ w => Mem _ _ w ([(bt, tobj p len cap (nxK xs (nxK xs (nxK xs (wipK xs kk)))))] ++ _)) hok rfl rfl (fun _ _ _ h k => h.later k) (fun a' w' σ' F' E' T' => o_call (F'.ev rfl) (F'.evs rfl) (Cal.mono (bool_c 3 (by omega) (by omega) _ (hTw _ E') (T'.heap .here)) fun _ _ hh => ⟨hh.2.ext, hh.1, Mem.turn1 T' hh.2 .here⟩)) ?_
    refine mK hok rfl rfl (fun a' w' F' E' => o_not (F'.ev rfl) ⟨Ext.refl _ _, rfl⟩) ?_
    refine mK hok rfl rfl (fun a' w' F' E' => o_move (F'.ev rfl) ⟨Ext.refl _ _, rfl⟩) ?_
    refine mE (T' := fun _ w => Mem _ _ w ([(bt, tobj p len cap (nxK xs (nxK xs (nxK xs (nxK xs (wipK xs kk))))))] ++ _)) hok rfl rfl (fun _ _ _ h k => h.later k) (fun a' w' σ' F' E' T' => o_call (F'.ev rfl) (F'.evs rfl) (Cal.mono (next_c 3 (by omega) (by omega) _ (hTw _ E') (T'.heap .here)) fun _ _ hh => ⟨hh.2.ext, hh.1, Mem.turn1 T' hh.2 .here⟩)) ?_
    refine mK hok rfl rfl (fun a' w' F' E' => o_conv (F'.ev rfl) (w_u32 (by omega) (by omega)) ⟨Ext.refl _ _, rfl⟩) ?_
    obtain ⟨z, hz⟩ : ∃ z : PInf, z = ⟨maskI (wipV xs kk) (tab5.getD (nxV xs (wipK xs kk) 5).toNat 0), tab5.getD (nxV xs (wipK xs kk) 5).toNat 0, boolV xs (nxK xs (wipK xs kk)) 2, !boolV xs (nxK xs (nxK xs (wipK xs kk))) 3, nxV xs (nxK xs (nxK xs (nxK xs (wipK xs kk)))) 3⟩ := ⟨_, rfl⟩
    have hzi : IsPi z := by rw [hz]; exact mask_isIP (wipV_is _ _) _
    have hbl : putAll [(0, 17), (17, 1), (18, 1), (19, 1)] piZ [(0, pfC (maskI (wipV xs kk) (tab5.getD (nxV xs (wipK xs kk) 5).toNat 0)) (tab5.getD (nxV xs (wipK xs kk) 5).toNat 0)), (1, [.bool (boolV xs (nxK xs (wipK xs kk)) 2)]), (2, [.bool (!boolV xs (nxK xs (nxK xs (wipK xs kk))) 3)]), (3, [.int .u32 (nxV xs (nxK xs (nxK xs (nxK xs (wipK xs kk)))) 3)])] = some (piC z) := by have := pi_build hzi; rw [hz] at this ⊢; exact this
    (refine mK hok rfl rfl (fun a' w' F' E' => o_build F' rfl hbl ⟨Ext.refl _ _, rfl⟩) ?_)
    refine mX (V := NewS w1.heap.size 1 1 (.cells (piC z).toArray 111 (0, 0))) hok rfl rfl (NewS.staysBut hbw) (fun a' w' F' E' D' => o_buildSlice F' (Mem.empty w') rfl rfl rfl (pi_build1 hzi) fun b w'' M'' => newSB_of E' ⟨b, rfl, M''⟩) ?_
    (refine mDone rfl hef ?_; clear F; clear M; intro a w F hE2 hX MT hDD hPP; obtain ⟨b42, e42, g42, q42⟩ := hX 19 (NewS w1.heap.size 1 1 (.cells (piC z).toArray 111 (0, 0))) (by kernel_rfl); replace F := F.know (d := 42) e42; replace g42 : w1.heap.size ≤ b42 := g42)
    have M := Mem.al (pre := [(bt, tobj p len cap (nxK xs (nxK xs (nxK xs (nxK xs (wipK xs kk))))))]) MT (M1.sub (List.sublist_cons_self _ _)) q42 g42 (by intro q hq h; simp at hq; subst hq; have h2 := ptrTo_inj h; have h3 := M1.lt (List.mem_cons_self); dsimp only at h3 h2; omega)
    clear M1 hX hE2 hok hef hB hDD hPP MT e42 g42 q42 hTw hbw
    (try dsimp only at F)
    simp only [List.cons_append, List.nil_append] at M
    generalize nxK xs (nxK xs (nxK xs (nxK xs (wipK xs kk)))) = k5 at *
    clear hz hbl
    (refine stepD rfl F rfl (o_append hO M (.cons (.cons (.cons (.cons .here)))) (F.ev rfl) (F.ev rfl) (SrcOf.cells' (M.heap .here) (sg_all (by rw [pi_len hzi])) (pi_one _)) (by omega) (by omega) ?_); clear F; clear M; clear hO; intro u2 eu2 w hO M a F)
    obtain ⟨up2, uc2, rfl⟩ := hO.slice
    refine stepD rfl F rfl (o_fieldAddr (F.ev rfl) ?_); clear F; clear a; intro a F
    (refine stepN rfl F (o_store1 M (F.ev rfl) (F.ev rfl) rfl (by repeat (first | exact .here | apply Has.there)) (f18 _) (by repeat (first | exact .here | apply Upd.there)) ?_); clear F; clear M; intro w M a F)
    with_reducible refine l_nil ?_
    with_reducible refine q_inB ?_
    with_reducible refine q_then ?_
    with_reducible refine c_region ?_
    refine stepD rfl F rfl (o_move (F.ev rfl) ?_); clear F; clear a; intro a F
    refine stepD rfl F rfl (o_sub (F.ev rfl) (F.ev rfl) (w_i64 (by omega) (by omega)) ?_); clear F; clear a; intro a F
    refine stepD rfl F rfl (o_assign (F.ev rfl) ?_); clear F; clear a; intro a F
    with_reducible refine l_nil ?_
    with_reducible refine q_then ?_
    exact ⟨_, by omega, c - 1, _, ps ++ [z], _, eu2, k5, rfl, by omega, by simp; omega, by
      intro q hq
      rcases List.mem_append.1 hq with h | h
      · exact hps q h
      · simp only [List.mem_singleton] at h
        rw [h]; exact hzi, by show OwnS _ 20 _ (ps ++ [z]).length (encL piC (ps ++ [z])) _; rw [show (ps ++ [z]).length = ps.length + 1 by simp, encL_app, encL_one]; exact hO, F.only [6, 5, 4, 0] rfl, M.sub (.cons _ (.refl _))⟩
  · obtain rfl : c = 0 := by omega
    obtain rfl : x = 0 := by omega
    simp only [Nat.add_zero] at hpl
    with_reducible refine c_seq ?_
    with_reducible refine c_seq ?_
    with_reducible refine c_region ?_
    refine stepD rfl F rfl (o_move (F.ev rfl) ?_); clear F; clear a; intro a F
    refine stepD rfl F rfl (o_gtrF (F.ev rfl) (F.ev rfl) (by omega) ?_); clear F; clear a; intro a F
    with_reducible refine l_nil ?_
    with_reducible refine q_then ?_
    refine c_false F rfl rfl ?_
    with_reducible refine c_exit ?_
    with_reducible refine q_thenX ?_
    with_reducible refine q_thenX ?_
    with_reducible refine q_inBX ?_
    with_reducible refine q_then ?_
    with_reducible refine c_seq ?_
    with_reducible refine c_region ?_
    refine stepD rfl F rfl (o_move (F.ev rfl) ?_); clear F; clear a; intro a F
    (refine stepD rfl F rfl (o_call (F.ev rfl) (F.evs rfl) (Cal.mono (next_c 14 (by omega) (by omega) _ (hT.later M.ext) (M.heap .here) ) ?_)); clear F; clear a; have M0 := M; clear M; rintro _ w ⟨rfl, N⟩ a F)
    replace M := M0.turn1 N .here
    have v7 := nxV_bd xs kk (n := 14) (by omega)
    generalize nxV xs kk 14 = fst at *
    refine stepD rfl F rfl (o_assign (F.ev rfl) ?_); clear F; clear a; intro a F
    with_reducible refine l_nil ?_
    with_reducible refine q_then ?_
    with_reducible refine c_seq ?_
    with_reducible refine c_seq ?_
    with_reducible refine c_region ?_
    refine stepD rfl F rfl (o_move (F.ev rfl) ?_); clear F; clear a; intro a F
    (refine stepD rfl F rfl (o_call (F.ev rfl) (F.evs rfl) (Cal.mono (next_c 3 (by omega) (by omega) _ (hT.later M.ext) (M.heap .here) ) ?_)); clear F; clear a; have M0 := M; clear M; rintro _ w ⟨rfl, N⟩ a F)
    replace M := M0.turn1 N .here
    clear M0
    have v8 := nxV_bd xs (nxK xs kk) (n := 3) (by omega)
    generalize nxK xs (nxK xs kk) = k6 at *
    obtain ⟨c1, hc1⟩ := Int.eq_ofNat_of_zero_le v8.1
    rw [hc1] at F v8
    clear hc1
    refine stepD rfl F rfl (o_assign (F.ev rfl) ?_); clear F; clear a; intro a F
    with_reducible refine l_nil ?_
    with_reducible refine q_then ?_
    with_reducible refine c_block ?_
    have hpo := hO.one
    refine c_loop (fun m a w => ∃ (c : Nat) (x : Int) (cs : List CInf) (v : Value) (ev : List (Nat × Obj)) (k : Nat), m = c ∧ x = c ∧ cs.length + c ≤ 2 ∧ (∀ q ∈ cs, IsCi q) ∧ OwnS 116 20 v cs.length (cisC cs) ev ∧ Frm a 70 [] [(8, .int .i64 x), (7, .int .i64 fst), (5, .pointer (some ⟨b5, 0, none⟩)), (4, .pointer (some ⟨b4, 0, none⟩)), (0, .pointer (some ⟨bt, 0, none⟩))] ∧ Mem [bt] W w ([(bt, tobj p len cap k), (b5, .cells (ofC h u v).toArray 58 (0, 0)), (b4, .cells ofZ.toArray 58 (0, 0))] ++ (eu ++ ev))) c1 ⟨c1, _, [], _, [], k6, rfl, rfl, by simp; omega, by simp, OwnS.nil _ _, F.only [8, 7, 5, 4, 0] rfl, by rw [List.append_nil]; exact M⟩ ?_
    clear F M
    rintro m a w ⟨c, x, cs, v, ev, kk, hm, hxc, hcl, hcs, hOv, F, M⟩
    by_cases hlt : 0 < c
    · obtain ⟨vp, vc, rfl⟩ := hOv.slice
      have e19 := of_cs hh u (.slice vp cs.length vc)
      have f19 := of_put_cs hh u (.slice vp cs.length vc)
      have v2 := nxV_bd xs (nxK xs (wpK xs kk)) (n := 3) (by omega)
      with_reducible refine c_seq ?_
      with_reducible refine c_seq ?_
      with_reducible refine c_region ?_
      refine stepD rfl F rfl (o_move (F.ev rfl) ?_); clear F; clear a; intro a F
      refine stepD rfl F rfl (o_gtrT (F.ev rfl) (F.ev rfl) (by omega) ?_); clear F; clear a; intro a F
      with_reducible refine l_nil ?_
      with_reducible refine q_then ?_
      refine c_true F rfl rfl ?_
      with_reducible refine c_skip ?_
      with_reducible refine q_then ?_
      with_reducible refine c_seq ?_
      with_reducible refine c_block ?_
      replace M : Mem [bt] W w ([(bt, tobj p len cap kk)] ++ ((b5, .cells (ofC h u (.slice vp cs.length vc)).toArray 58 (0, 0)) :: (b4, .cells ofZ.toArray 58 (0, 0)) :: (eu ++ ev))) := M
      refine c_drawB (l0 := [(bt, tobj p len cap kk)]) [bt] [6, 8, 10] M 14 F (by kernel_rfl) ?_
      intro w1 M1 hok hef
      have hB : ∀ k ∈ [bt], k ∈ ([(bt, tobj p len cap kk)] : List (Nat × Obj)).map (·.1) := by simp
      have hbw : ∀ k ∈ [bt], k < w1.heap.size := fun k hk => by
        simp only [List.mem_singleton] at hk
        subst hk
        exact Nat.lt_of_lt_of_le hbt M1.ext.size
      have hTw : ∀ w', Ext [bt] w1 w' → TapeS w' bt p len xs := fun w' E => hT.later (M1.ext.trans (E.mono (by simp)))
      refine mK hok rfl rfl (fun a' w' F' E' => o_fieldAddr (F'.ev rfl) ⟨Ext.refl _ _, rfl⟩) ?_
      refine mK hok rfl rfl (fun a' w' F' E' => o_load1 (M1.laterBut E' hB) (F'.ev rfl) (by repeat (first | exact .here | apply Has.there)) (by first | assumption | rfl) ⟨Ext.refl _ _, rfl⟩) ?_
      refine mK hok rfl rfl (fun a' w' F' E' => o_move (F'.ev rfl) ⟨Ext.refl _ _, rfl⟩) ?_
      refine mK hok rfl rfl (fun a' w' F' E' => o_move (F'.ev rfl) ⟨Ext.refl _ _, rfl⟩) ?_
      refine mK hok rfl rfl (fun a' w' F' E' => o_add (F'.ev rfl) (F'.ev rfl) (w_i64 (by omega) (by omega)) ⟨Ext.refl _ _, rfl⟩) ?_
      refine mK hok rfl rfl (fun a' w' F' E' => o_move (F'.ev rfl) ⟨Ext.refl _ _, rfl⟩) ?_
      refine mE (T' := fun _ w => Mem _ _ w ([(bt, tobj p len cap (wpK xs kk))] ++ _)) hok rfl rfl (fun _ _ _ h k => h.later k) (fun a' w' σ' F' E' T' => o_call (F'.ev rfl) (F'.evs rfl) (Cal.mono (wprefix_c _ (hTw _ E') (T'.heap .here)) fun _ _ hh => ⟨hh.2.ext, hh.1, Mem.turn1 T' hh.2 .here⟩)) ?_
      refine mK hok rfl rfl (fun a' w' F' E' => o_move (F'.ev rfl) ⟨Ext.refl _ _, rfl⟩) ?_
      refine mE (T' := fun _ w => Mem _ _ w ([(bt, tobj p len cap (nxK xs (wpK xs kk)))] ++ _)) hok rfl rfl (fun _ _ _ h k => h.later k) (fun a' w' σ' F' E' T' => o_call (F'.ev rfl) (F'.evs rfl) (Cal.mono (bool_c 2 (by omega) (by omega) _ (hTw _ E') (T'.heap .here)) fun _ _ hh => ⟨hh.2.ext, hh.1, Mem.turn1 T' hh.2 .here⟩)) ?_
      refine mK hok rfl rfl (fun a' w' F' E' => o_move (F'.ev rfl) ⟨Ext.refl _ _, rfl⟩) ?_
      refine mE (T' := fun _ w => Mem _ _ w ([(bt, tobj p len cap (nxK xs (nxK xs (wpK xs kk))))] ++ _)) hok rfl rfl (fun _ _ _ h k => h.later k) (fun a' w' σ' F' E' T' => o_call (F'.ev rfl) (F'.evs rfl) (Cal.mono (next_c 3 (by omega) (by omega) _ (hTw _ E') (T'.heap .here)) fun _ _ hh => ⟨hh.2.ext, hh.1, Mem.turn1 T' hh.2 .here⟩)) ?_
      refine mK hok rfl rfl (fun a' w' F' E' => o_conv (F'.ev rfl) (w_u16 (by omega) (by omega)) ⟨Ext.refl _ _, rfl⟩) ?_
      obtain ⟨z, hz⟩ : ∃ z : CInf, z = ⟨fst + x, maskI (wpA xs kk) (wpN xs kk), wpN xs kk, boolV xs (wpK xs kk) 2, nxV xs (nxK xs (wpK xs kk)) 3⟩ := ⟨_, rfl⟩
      have hzi : IsCi z := by rw [hz]; exact wpA_is _ _
      have hbl : putAll [(0, 1), (1, 17), (18, 1), (19, 1)] ciZ [(0, [.int .i64 (fst + x)]), (1, pfC (maskI (wpA xs kk) (wpN xs kk)) (wpN xs kk)), (2, [.bool (boolV xs (wpK xs kk) 2)]), (3, [.int .u16 (nxV xs (nxK xs (wpK xs kk)) 3)])] = some (ciC z) := by have := ci_build hzi; rw [hz] at this ⊢; exact this
      (refine mK hok rfl rfl (fun a' w' F' E' => o_build F' rfl hbl ⟨Ext.refl _ _, rfl⟩) ?_)
      refine mX (V := NewS w1.heap.size 1 1 (.cells (ciC z).toArray 116 (0, 0))) hok rfl rfl (NewS.staysBut hbw) (fun a' w' F' E' D' => o_buildSlice F' (Mem.empty w') rfl rfl rfl (ci_build1 hzi) fun b w'' M'' => newSB_of E' ⟨b, rfl, M''⟩) ?_
      (refine mDone rfl hef ?_; clear F; clear M; intro a w F hE2 hX MT hDD hPP; obtain ⟨b42, e42, g42, q42⟩ := hX 13 (NewS w1.heap.size 1 1 (.cells (ciC z).toArray 116 (0, 0))) (by kernel_rfl); replace F := F.know (d := 66) e42; replace g42 : w1.heap.size ≤ b42 := g42)
      have M := Mem.al (pre := [(bt, tobj p len cap (nxK xs (nxK xs (wpK xs kk))))]) MT (M1.sub (List.sublist_cons_self _ _)) q42 g42 (by intro q hq h; simp at hq; subst hq; have h2 := ptrTo_inj h; have h3 := M1.lt (List.mem_cons_self); dsimp only at h3 h2; omega)
      clear M1 hX hE2 hok hef hB hDD hPP MT e42 g42 q42 hTw hbw
      (try dsimp only at F)
      simp only [List.cons_append, List.nil_append] at M
      generalize nxK xs (nxK xs (wpK xs kk)) = k5 at *
      clear hz hbl
      (refine stepD rfl F rfl (o_append hOv M (.cons (.cons (.cons (.cons (.app .here))))) (F.ev rfl) (F.ev rfl) (SrcOf.cells' (M.heap .here) (sg_all (by rw [ci_len hzi])) (ci_one _)) (by omega) (by omega) ?_); clear F; clear M; clear hOv; intro v2 ev2 w hOv M a F)
      obtain ⟨vp2, vc2, rfl⟩ := hOv.slice
      refine stepD rfl F rfl (o_fieldAddr (F.ev rfl) ?_); clear F; clear a; intro a F
      (refine stepN rfl F (o_store1 M (F.ev rfl) (F.ev rfl) rfl (by repeat (first | exact .here | apply Has.there)) (f19 _) (by repeat (first | exact .here | apply Upd.there)) ?_); clear F; clear M; intro w M a F)
      with_reducible refine l_nil ?_
      with_reducible refine q_inB ?_
      with_reducible refine q_then ?_
      with_reducible refine c_region ?_
      refine stepD rfl F rfl (o_move (F.ev rfl) ?_); clear F; clear a; intro a F
      refine stepD rfl F rfl (o_sub (F.ev rfl) (F.ev rfl) (w_i64 (by omega) (by omega)) ?_); clear F; clear a; intro a F
      refine stepD rfl F rfl (o_assign (F.ev rfl) ?_); clear F; clear a; intro a F
      with_reducible refine l_nil ?_
      with_reducible refine q_then ?_
      exact ⟨_, by omega, c - 1, _, cs ++ [z], _, ev2, k5, rfl, by omega, by simp; omega, by
        intro q hq
        rcases List.mem_append.1 hq with h | h
        · exact hcs q h
        · simp only [List.mem_singleton] at h
          rw [h]; exact hzi, by show OwnS _ 20 _ (cs ++ [z]).length (encL ciC (cs ++ [z])) _; rw [show (cs ++ [z]).length = cs.length + 1 by simp, encL_app, encL_one]; exact hOv, F.only [8, 7, 5, 4, 0] rfl, M.sub (.cons _ (.refl _))⟩
    · obtain rfl : c = 0 := by omega
      have f0 : seg (ofC h u v) 0 20 = some (ofC h u v) := of_all hh u v
      have f1 : (ofC h u v).all (·.oneCell') = true := of_one _ _ _ hO.one hOv.one
      simp only [List.cons_append, List.nil_append] at M
      with_reducible refine c_seq ?_
      with_reducible refine c_seq ?_
      with_reducible refine c_region ?_
      refine stepD rfl F rfl (o_move (F.ev rfl) ?_); clear F; clear a; intro a F
      refine stepD rfl F rfl (o_gtrF (F.ev rfl) (F.ev rfl) (by omega) ?_); clear F; clear a; intro a F
      with_reducible refine l_nil ?_
      with_reducible refine q_then ?_
      refine c_false F rfl rfl ?_
      with_reducible refine c_exit ?_
      with_reducible refine q_thenX ?_
      with_reducible refine q_thenX ?_
      with_reducible refine q_inBX ?_
      with_reducible refine q_then ?_
      with_reducible refine c_seq ?_
      with_reducible refine c_region ?_
      refine stepD rfl F rfl (o_loadA M (F.ev rfl) (by repeat (first | exact .here | apply Has.there)) (by first | assumption | rfl) ?_); clear F; clear a; intro a F
      (refine stepN rfl F (o_storeA M (F.ev rfl) (F.ev rfl) (of_len hh _ _) f1  (by repeat (first | exact .here | apply Has.there))  (put_all (by rw [of_len hh]; rfl)) (by repeat (first | exact .here | apply Upd.there)) ?_); clear F; clear M; intro w M a F)
      with_reducible refine l_nil ?_
      with_reducible refine q_then ?_
      with_reducible refine c_ret ?_
      have hAt : OffNew W.heap.size w ⟨⟨h, ps, cs⟩, u, v⟩ := by
        have hnb : ∀ p ∈ eu ++ ev, p.1 ∉ [bt] := fun p hp hb => (List.nodup_cons.1 M.nd).1 (by
          simp only [List.mem_singleton] at hb
          exact List.mem_map.2 ⟨p, by simp at hp ⊢; exact .inr (.inr hp), hb⟩)
        refine ⟨⟨hO.slAt M (fun p hp => by simp [hp]), hOv.slAt M (fun p hp => by simp [hp])⟩, hO.newVB M (fun p hp => by simp [hp]) (fun p hp => hnb p (List.mem_append_left _ hp)), hOv.newVB M (fun p hp => by simp [hp]) (fun p hp => hnb p (List.mem_append_right _ hp))⟩
      refine p_ret F rfl (.cons (.cell (F.ev rfl) (run_loadVar_agg TAgg.h (M.heap (.there (.there .here))) f0)) .nil) ⟨⟨⟨h, ps, cs⟩, u, v⟩, kk, rfl, ⟨hh, hps, hcs⟩, ⟨hpl, hcl⟩, hAt, ?_⟩
      exact M.sub (.cons_cons _ (List.nil_sublist _))
end Go.Proofs.Ytainnefmobfcjaa
