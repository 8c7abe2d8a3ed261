/-
  PROVED: for every input BorderOffers answers true, and each argument reads afterwards as it read before.
-/
import Derived.Test.YtainnefmobfcjaaOfr4
/-! F8 -/
namespace Go.Proofs.Ytainnefmobfcjaa
set_option linter.unusedVariables false
set_option linter.unusedSimpArgs false
open Go.RowKit
attribute [local irreducible] OpTo wpListIn Code.wpIn MW Cal
abbrev ipsC (ls : List (List Int)) : List Value := encL ipC ls
theorem build_ip1 {a : List Int} (h : a.length = 16) : putAll (placesL 1 16) (zerosL [.int .u8 0, .int .u8 0, .int .u8 0, .int .u8 0, .int .u8 0, .int .u8 0, .int .u8 0, .int .u8 0, .int .u8 0, .int .u8 0, .int .u8 0, .int .u8 0, .int .u8 0, .int .u8 0, .int .u8 0, .int .u8 0] (1 * 16)) [(0, ipC a)] = some (ipC a) := by
  obtain ⟨x0, x1, x2, x3, x4, x5, x6, x7, x8, x9, x10, x11, x12, x13, x14, x15, rfl⟩ := len16 h
  rfl
theorem joinI_isIP {p : List Int} (hp : IsIP p) {v : Int} (hv : 0 ≤ v) : IsIP (joinI p v) := by
  obtain ⟨n, rfl⟩ := Int.eq_ofNat_of_zero_le hv
  refine ⟨by simp [joinI, beB_len, hp.len], fun z hz => ?_⟩
  rcases List.mem_append.1 hz with h | h
  · exact hp.bd z (List.mem_of_mem_take h)
  · exact beB_bd n z h
def addr1 (iid : Int) (p : PInf) : Option (List Int) := if p.aut && (p.bits == 64 && !(p.life == 0)) then joinP p.ip p.bits iid else none
def rawA (iid : Int) (o : Off) : List (List Int) := o.ps.filterMap (addr1 iid)
def rawL (iid : Int) (os : List Off) : List (List Int) := os.flatMap (rawA iid)
theorem rawA_len (iid : Int) (o : Off) : (rawA iid o).length ≤ o.ps.length := List.length_filterMap_le _ _
theorem rawL_len (iid : Int) : ∀ (os : List Off), (∀ o ∈ os, o.ps.length ≤ 16) → (rawL iid os).length ≤ os.length * 16
  | [], _ => by simp [rawL]
  | o :: os, h => by
    have h1 := rawA_len iid o
    have h2 := h o (by simp)
    have h3 := rawL_len iid os fun x hx => h x (by simp [hx])
    simp only [rawL, List.flatMap_cons, List.length_append, List.length_cons] at h3 ⊢
    omega
theorem rawA_take {iid : Int} {ps : List PInf} {j : Nat} (hj : j < ps.length) : (ps.take (j + 1)).filterMap (addr1 iid) = (ps.take j).filterMap (addr1 iid) ++ (addr1 iid ps[j]).toList := by
  rw [List.take_add_one, List.getElem?_eq_getElem hj, List.filterMap_append]
  congr 1
/-- what is asked of the sort and of the compaction of a list of addresses -/
def SortOk (Pl : List (List Int) → Prop) (Ql : List (List Int) → List (List Int) → Prop) : Prop :=
  ∀ (S : List Nat) (W0 w : World) (l : List (Nat × Obj)) (f : List (Nat × Obj) → List (Nat × Obj)) (v : Value) (ls : List (List Int)) (ent : List (Nat × Obj)), Mem S W0 w l → OwnS 26 16 v ls.length (ipsC ls) ent → TailAt ent l f → (∀ a ∈ ls, IsIP a) → Pl ls →
    Cal Try.prog 89 [v, .func (.func 45) #[] #[]].toArray w fun _ w' => ∃ ls' ent', Ql ls ls' ∧ OwnS 26 16 v ls'.length (ipsC ls') ent' ∧ Mem S W0 w' (f ent')
def CompOk (Pl : List (List Int) → Prop) (Ql : List (List Int) → List (List Int) → Prop) : Prop :=
  ∀ (S : List Nat) (W0 w : World) (l : List (Nat × Obj)) (f : List (Nat × Obj) → List (Nat × Obj)) (v : Value) (ls : List (List Int)) (ent : List (Nat × Obj)), Mem S W0 w l → OwnS 26 16 v ls.length (ipsC ls) ent → TailAt ent l f → Pl ls →
    Cal Try.prog 90 [v].toArray w fun r w' => ∃ ls' ent', Ql ls ls' ∧ OwnS 26 16 r ls'.length (ipsC ls') ent' ∧ Mem S W0 w' (f ent')
set_option maxHeartbeats 8000000 in
theorem addresses_c (xs : List OV) (hx : ∀ x ∈ xs, IsOff x.o) (v : Value) (now : Int) (eui : Int) (he : 0 ≤ eui) (iid : Int) (hiid0 : 0 ≤ iid) (hii : iidA 3 0 eui = some iid) (W : World) (hS : SlAt W 20 v xs.length (encL ovC xs)) (hA : ∀ x ∈ xs, OffAt W x)
    (hv : validL (xs.map (·.o)) = true) (htm : isTime now = true) (he0 : ¬ eui = 0) {P1 P2 : List (List Int) → Prop} {Q1 Q2 : List (List Int) → List (List Int) → Prop} (hso : SortOk P1 Q1) (hco : CompOk P2 Q2) (hp1 : P1 (rawL iid (curO (xs.map (·.o)) now))) (hp2 : ∀ ls', Q1 (rawL iid (curO (xs.map (·.o)) now)) ls' → P2 ls') :
    Cal Try.prog 59 [v, .int .i64 now, .int .u64 eui].toArray W fun r w' => ∃ ls1 ls2, Q1 (rawL iid (curO (xs.map (·.o)) now)) ls1 ∧ Q2 ls1 ls2 ∧ SlAt w' 16 r ls2.length (ipsC ls2) ∧ Ext [] W w' := by
  have hSs := hS
  obtain ⟨q, cap, rfl, hcap, hsp, hl, hm⟩ := hS
  have hlen := validL_len hv
  rw [List.length_map] at hlen
  have hopt : optU (iidA 3 0 eui) = .tuple #[.int .u64 iid, .bool true] := by rw [hii]; rfl
  have hipl : ∀ {ip : List Int} {n : Int} {r : List Int}, IsIP ip → joinP ip n iid = some r → IsIP r := fun {ip n r} h hj => by
    unfold joinP at hj
    split at hj
    · cases hj
      exact joinI_isIP h hiid0
    · cases hj
  refine fn_ofM (n := 77) [] Try.func59 rfl rfl rfl ?_
  intro a w F M hwW
  with_reducible refine c_seq ?_
  with_reducible refine c_region ?_
  refine stepD rfl F rfl (o_assign (F.ev rfl) ?_); clear F; clear a; intro a F
  with_reducible refine l_nil ?_
  with_reducible refine q_then ?_
  with_reducible refine c_seq ?_
  with_reducible refine c_seq ?_
  with_reducible refine c_region ?_
  refine stepD rfl F rfl (o_move (F.ev rfl) ?_); clear F; clear a; intro a F
  (refine stepD rfl F rfl (o_call (F.ev rfl) (F.evs rfl) (Cal.mono (validL_c xs hx _ _ (hSs.later M.ext) (fun z hz => (hA z hz).later M.ext)) ?_)); clear F; clear a; rintro _ w ⟨rfl, hE⟩ a F; replace M := M.later hE; clear hE)
  rw [hv] at F
  refine stepD rfl F rfl (o_not (F.ev rfl) ?_); clear F; clear a; intro a F
  refine stepD rfl F rfl (o_move (F.ev rfl) ?_); clear F; clear a; intro a F
  refine stepG rfl F rfl rfl rfl (o_move (F.ev rfl) ?_); clear F; clear a; intro a F
  (refine stepG rfl F rfl rfl rfl (o_call (F.ev rfl) (F.evs rfl) (Cal.mono (isTime_c now _) ?_)); clear F; clear a; rintro _ w ⟨rfl, hE⟩ a F; replace M := M.later hE; clear hE)
  rw [htm] at F
  refine stepG rfl F rfl rfl rfl (o_not (F.ev rfl) ?_); clear F; clear a; intro a F
  refine stepD rfl F rfl (o_pickF (F.ev rfl) (F.ev rfl) ?_); clear F; clear a; intro a F
  refine stepD rfl F rfl (o_move (F.ev rfl) ?_); clear F; clear a; intro a F
  refine stepG rfl F rfl rfl rfl (o_move (F.ev rfl) ?_); clear F; clear a; intro a F
  refine stepG rfl F rfl rfl rfl (o_eqlF (F.ev rfl) (F.ev rfl) (by omega) ?_); clear F; clear a; intro a F
  refine stepD rfl F rfl (o_pickF (F.ev rfl) (F.ev rfl) ?_); clear F; clear a; intro a F
  with_reducible refine l_nil ?_
  with_reducible refine q_then ?_
  refine c_false F rfl rfl ?_
  with_reducible refine c_skip ?_
  with_reducible refine q_then ?_
  with_reducible refine c_seq ?_
  with_reducible refine c_region ?_
  refine stepD rfl F rfl (o_move (F.ev rfl) ?_); clear F; clear a; intro a F
  refine stepD rfl F rfl (o_build F rfl rfl ?_); clear F; clear a; intro a F
  (refine stepD rfl F rfl (o_call (F.ev rfl) (F.evs rfl) (Cal.mono (iid_c 3 0 eui (by omega) (by omega) _) ?_)); clear F; clear a; rintro _ w ⟨rfl, hE⟩ a F; replace M := M.later hE; clear hE)
  rw [hopt] at F
  refine stepD rfl F rfl (o_move (F.ev rfl) ?_); clear F; clear a; intro a F
  refine stepD rfl F rfl (o_extract (F.ev rfl) rfl ?_); clear F; clear a; intro a F
  refine stepD rfl F rfl (o_extract (F.ev rfl) rfl ?_); clear F; clear a; intro a F
  (refine stepD rfl F rfl (o_alloc M ?_); clear F; clear M; intro b7 w M a F)
  (refine stepN rfl F (o_store1 M (F.ev rfl) (F.ev rfl) rfl (by repeat (first | exact .here | apply Has.there)) (by rfl) (by repeat (first | exact .here | apply Upd.there)) ?_); clear F; clear M; intro w M a F)
  refine stepD rfl F rfl (o_assign (F.ev rfl) ?_); clear F; clear a; intro a F
  with_reducible refine l_nil ?_
  with_reducible refine q_then ?_
  with_reducible refine c_seq ?_
  with_reducible refine c_seq ?_
  with_reducible refine c_region ?_
  refine stepD rfl F rfl (o_move (F.ev rfl) ?_); clear F; clear a; intro a F
  refine stepD rfl F rfl (o_not (F.ev rfl) ?_); clear F; clear a; intro a F
  with_reducible refine l_nil ?_
  with_reducible refine q_then ?_
  refine c_false F rfl rfl ?_
  with_reducible refine c_skip ?_
  with_reducible refine q_then ?_
  with_reducible refine c_seq ?_
  with_reducible refine c_region ?_
  (refine stepD rfl F rfl (o_alloc M ?_); clear F; clear M; intro b9 w M a F)
  with_reducible refine l_nil ?_
  with_reducible refine q_then ?_
  with_reducible refine c_seq ?_
  with_reducible refine c_seq ?_
  with_reducible refine c_region ?_
  refine stepD rfl F rfl (o_move (F.ev rfl) ?_); clear F; clear a; intro a F
  refine stepD rfl F rfl (o_move (F.ev rfl) ?_); clear F; clear a; intro a F
  (refine stepD rfl F rfl (o_call (F.ev rfl) (F.evs rfl) (Cal.mono (current_c _ now _ rfl ) ?_)); clear F; clear a; rintro _ w ⟨c2, c3, rfl, N⟩ a F; replace M := M.joins N; clear N)
  with_reducible refine l_nil ?_
  with_reducible refine q_then ?_
  with_reducible refine c_block ?_
  replace F := F.only [37, 7, 9] rfl
  replace M := M.perm (l' := [(b9, .cells [.slice none 0 0].toArray 112 (0, 0)), (b7, .cells [.int .u64 iid].toArray 35 (0, 0))] ++ curB (.slice q xs.length cap) now c2 c3) List.perm_append_comm
  refine c_rangeAt (α := OV) (ps := [38]) F M rfl (cur_iter W xs hx _ hSs hA (by omega) now c2 c3) (fun _ => rfl) rfl
    (fun pre l => ∃ sv ent, OwnS 26 16 sv (rawL iid (pre.map (·.o))).length (ipsC (rawL iid (pre.map (·.o)))) ent ∧ (∀ a ∈ rawL iid (pre.map (·.o)), IsIP a) ∧ l = [(b9, .cells [sv].toArray 112 (0, 0)), (b7, .cells [.int .u64 iid].toArray 35 (0, 0))] ++ ent)
    (fun c pre l => False)
    ⟨_, [], OwnS.nil _ _, by simp [rawL], rfl⟩ ?round ?done ?stop
  case stop =>
    intro D c pre l' p' W' a' h
    exact h.elim
  case round =>
    clear F M
    rintro L pre y _ w p a hok ⟨sv, ent, hO, hI, rfl⟩ M F
    have hym : y ∈ curX xs now := hok.subset (by simp)
    have hyx : y ∈ xs := (List.mem_filter.1 hym).1
    have hyo := hx y hyx
    have hya := hA y hyx
    have hyv := validO_len (validL_each hv (List.mem_map_of_mem hyx))
    have hrl : (rawL iid (pre.map (·.o))).length ≤ 128 := by
      have h1 : ∀ o ∈ pre.map (·.o), o.ps.length ≤ 16 := fun o ho => by
        obtain ⟨x', h2, rfl⟩ := List.mem_map.1 ho
        have h3 : x' ∈ curX xs now := hok.subset (by simp [h2])
        exact (validO_len (validL_each hv (List.mem_map_of_mem (List.mem_filter.1 h3).1))).1
      have h2 := rawL_len iid _ h1
      have h3 : (pre ++ [y]).length ≤ (curX xs now).length := hok.length_le
      have h4 : (curX xs now).length ≤ xs.length := List.length_filter_le _ _
      simp at h3 h2
      omega
    have f2 : (ovC y).length = 20 := ov_len hyo
    have hya2 := hya
    obtain ⟨⟨q1, cap1, hu, hc1, hn1, hl1, hm1⟩, _⟩ := hya
    have f4 : nth (ovC y) 18 = some (.slice q1 y.o.ps.length cap1) := by rw [← hu]; exact of_ps hyo.1 _ _
    refine c_region ?_
    (refine stepD rfl F rfl (o_alloc M ?_); clear F; clear M; intro b10 w M a F)
    (refine stepN rfl F (o_storeA M (F.ev rfl) (F.ev rfl) (f2) (ov_one hya2)  (by repeat (first | exact .here | apply Has.there))  (put_all (by rw [f2]; rfl)) (by repeat (first | exact .here | apply Upd.there)) ?_); clear F; clear M; intro w M a F)
    refine l_nil ?_
    refine q_then ?_
    replace M : Mem [] W w (((b10, .cells (ovC y).toArray 58 (0, 0)) :: ([(b9, .cells [sv].toArray 112 (0, 0)), (b7, .cells [.int .u64 iid].toArray 35 (0, 0))] ++ ent)) ++ p) := M
    refine ⟨_, M, ?_⟩
    clear M
    intro w p M
    replace M := M.perm (l' := (b10, .cells (ovC y).toArray 58 (0, 0)) :: (b9, .cells [sv].toArray 112 (0, 0)) :: (b7, .cells [.int .u64 iid].toArray 35 (0, 0)) :: (p ++ ent)) (by classical exact List.perm_iff_count.2 fun _ => by simp only [List.count_append, List.count_cons, List.count_nil, Nat.add_zero, Nat.zero_add] <;> ac_rfl)
    replace F := F.only [10, 9, 7] rfl
    with_reducible refine c_block ?_
    with_reducible refine c_seq ?_
    with_reducible refine c_region ?_
    refine stepD rfl F rfl (o_fieldAddr (F.ev rfl) ?_); clear F; clear a; intro a F
    refine stepD rfl F rfl (o_load1 M (F.ev rfl) (by repeat (first | exact .here | apply Has.there)) (by first | assumption | rfl) ?_); clear F; clear a; intro a F
    refine stepD rfl F rfl (o_lenSl (F.ev rfl) ?_); clear F; clear a; intro a F
    refine stepD rfl F rfl (o_move (F.ev rfl) ?_); clear F; clear a; intro a F
    with_reducible refine l_nil ?_
    with_reducible refine q_then ?_
    with_reducible refine c_block ?_
    refine c_loop (fun m a w => ∃ (j : Nat) (R : List (List Int)) (sv : Value) (ent : List (Nat × Obj)), m = y.o.ps.length - j ∧ j ≤ y.o.ps.length ∧ R = rawL iid (pre.map (·.o)) ++ (y.o.ps.take j).filterMap (addr1 iid) ∧ R.length ≤ 128 + j ∧ (∀ a ∈ R, IsIP a) ∧ OwnS 26 16 sv R.length (ipsC R) ent ∧ Frm a 77 [] [(42, .int .i64 j), (41, .int .i64 y.o.ps.length), (40, .slice q1 y.o.ps.length cap1), (10, .pointer (some ⟨b10, 0, none⟩)), (9, .pointer (some ⟨b9, 0, none⟩)), (7, .pointer (some ⟨b7, 0, none⟩))] ∧ Mem [] W w ((b10, .cells (ovC y).toArray 58 (0, 0)) :: (b9, .cells [sv].toArray 112 (0, 0)) :: (b7, .cells [.int .u64 iid].toArray 35 (0, 0)) :: (p ++ ent))) y.o.ps.length ⟨0, _, sv, ent, rfl, by omega, by simp, hrl, hI, hO, F.only [42, 41, 40, 10, 9, 7] rfl, M⟩ ?_
    clear F M hO hI sv ent
    rintro m a w ⟨j, R, sv, ent, hm', hj, hR, hRl, hI, hO, F, M⟩
    by_cases hlt : j < y.o.ps.length
    · obtain ⟨b, o, cs, t, fz, rfl, hb, hs⟩ := hm1 (by omega)
      have hrt := rawA_take (iid := iid) hlt
      obtain ⟨p1, hp0⟩ : ∃ p1, p1 = y.o.ps[j] := ⟨_, rfl⟩
      rw [← hp0] at hrt
      have hpi : IsPi p1 := by rw [hp0]; exact hyo.2.1 _ (List.getElem_mem hlt)
      have f1 : seg cs (o + (j : Int).toNat * 20) 20 = some (piC p1) := by rw [hp0]; exact seg_el (pis_len hyo.2.1) hs hlt (by omega)
      have g1 := pi_aut hpi
      have g2 := pi_bits hpi
      have g3 := pi_life hpi
      have g4 := pi_pre hpi
      obtain ⟨sp, sc, rfl⟩ := hO.slice
      with_reducible refine c_seq ?_
      with_reducible refine c_region ?_
      refine stepD rfl F rfl (o_lssT (F.ev rfl) (F.ev rfl) (by omega) ?_); clear F; clear a; intro a F
      with_reducible refine l_nil ?_
      with_reducible refine q_then ?_
      with_reducible refine c_seq ?_
      refine c_true F rfl rfl ?_
      with_reducible refine c_skip ?_
      with_reducible refine q_then ?_
      with_reducible refine c_seq ?_
      with_reducible refine c_block ?_
      with_reducible refine c_seq ?_
      with_reducible refine c_region ?_
      refine stepD rfl F rfl (o_indexSl (F.ev rfl) (F.ev rfl) (by omega) (by omega) ?_); clear F; clear a; intro a F
      refine stepD rfl F rfl (o_loadWA M (F.ev rfl) (by assumption) (by first | assumption | rfl) ?_); clear F; clear a; intro a F
      (refine stepD rfl F rfl (o_alloc M ?_); clear F; clear M; intro b12 w M a F)
      (refine stepN rfl F (o_storeA M (F.ev rfl) (F.ev rfl) (pi_len hpi) (pi_one _)  (by repeat (first | exact .here | apply Has.there))  (put_all (by rw [pi_len hpi]; rfl)) (by repeat (first | exact .here | apply Upd.there)) ?_); clear F; clear M; intro w M a F)
      by_cases hc : p1.aut = true ∧ p1.bits = 64 ∧ ¬ p1.life = 0
      · obtain ⟨h1, h2, h3⟩ := hc
        have ha1 : addr1 iid p1 = joinP p1.ip p1.bits iid := by unfold addr1; rw [h1, h2]; simp [h3]
        rw [h1] at g1
        rw [ha1] at hrt
        with_reducible refine l_nil ?_
        with_reducible refine q_then ?_
        with_reducible refine c_seq ?_
        with_reducible refine c_seq ?_
        with_reducible refine c_region ?_
        refine stepD rfl F rfl (o_fieldAddr (F.ev rfl) ?_); clear F; clear a; intro a F
        refine stepD rfl F rfl (o_load1 M (F.ev rfl) (by repeat (first | exact .here | apply Has.there)) (by first | assumption | rfl) ?_); clear F; clear a; intro a F
        refine stepD rfl F rfl (o_not (F.ev rfl) ?_); clear F; clear a; intro a F
        refine stepD rfl F rfl (o_move (F.ev rfl) ?_); clear F; clear a; intro a F
        refine stepG rfl F rfl rfl rfl (o_fieldAddr (F.ev rfl) ?_); clear F; clear a; intro a F
        refine stepG rfl F rfl rfl rfl (o_fieldAddr (F.ev rfl) ?_); clear F; clear a; intro a F
        refine stepG rfl F rfl rfl rfl (o_load1 M (F.ev rfl) (by repeat (first | exact .here | apply Has.there)) (by first | assumption | rfl) ?_); clear F; clear a; intro a F
        refine stepG rfl F rfl rfl rfl (o_neqF (F.ev rfl) (F.ev rfl) (by omega) ?_); clear F; clear a; intro a F
        refine stepD rfl F rfl (o_pickF (F.ev rfl) (F.ev rfl) ?_); clear F; clear a; intro a F
        refine stepD rfl F rfl (o_move (F.ev rfl) ?_); clear F; clear a; intro a F
        refine stepG rfl F rfl rfl rfl (o_fieldAddr (F.ev rfl) ?_); clear F; clear a; intro a F
        refine stepG rfl F rfl rfl rfl (o_load1 M (F.ev rfl) (by repeat (first | exact .here | apply Has.there)) (by first | assumption | rfl) ?_); clear F; clear a; intro a F
        refine stepG rfl F rfl rfl rfl (o_eqlF (F.ev rfl) (F.ev rfl) (by omega) ?_); clear F; clear a; intro a F
        refine stepD rfl F rfl (o_pickF (F.ev rfl) (F.ev rfl) ?_); clear F; clear a; intro a F
        with_reducible refine l_nil ?_
        with_reducible refine q_then ?_
        refine c_false F rfl rfl ?_
        with_reducible refine c_skip ?_
        with_reducible refine q_then ?_
        with_reducible refine c_seq ?_
        with_reducible refine c_region ?_
        refine stepD rfl F rfl (o_fieldAddr (F.ev rfl) ?_); clear F; clear a; intro a F
        refine stepD rfl F rfl (o_loadA M (F.ev rfl) (by repeat (first | exact .here | apply Has.there)) (by first | assumption | rfl) ?_); clear F; clear a; intro a F
        refine stepD rfl F rfl (o_load1 M (F.ev rfl) (by repeat (first | exact .here | apply Has.there)) (by first | assumption | rfl) ?_); clear F; clear a; intro a F
        (refine stepD rfl F rfl (o_call (F.ev rfl) (F.evs rfl) (Cal.mono (join_c p1.ip hpi.len p1.bits iid hiid0 _) ?_)); clear F; clear a; rintro _ w ⟨rfl, hE⟩ a F; replace M := M.later hE; clear hE)
        cases hjn : joinP p1.ip p1.bits iid with
        | none =>
          rw [hjn, show optIP none = .tuple #[.agg (ipC zeroIP).toArray, .bool false] from rfl] at F
          rw [hjn] at hrt
          refine stepD rfl F rfl (o_move (F.ev rfl) ?_); clear F; clear a; intro a F
          refine stepD rfl F rfl (o_extract (F.ev rfl) rfl ?_); clear F; clear a; intro a F
          refine stepD rfl F rfl (o_extract (F.ev rfl) rfl ?_); clear F; clear a; intro a F
          (refine stepD rfl F rfl (o_alloc M ?_); clear F; clear M; intro b13 w M a F)
          (refine stepN rfl F (o_storeA M (F.ev rfl) (F.ev rfl) (ipC_len rfl) (one_ip _)  (by repeat (first | exact .here | apply Has.there))  (put_all rfl) (by repeat (first | exact .here | apply Upd.there)) ?_); clear F; clear M; intro w M a F)
          refine stepD rfl F rfl (o_assign (F.ev rfl) ?_); clear F; clear a; intro a F
          with_reducible refine l_nil ?_
          with_reducible refine q_then ?_
          with_reducible refine c_seq ?_
          with_reducible refine c_region ?_
          refine stepD rfl F rfl (o_move (F.ev rfl) ?_); clear F; clear a; intro a F
          with_reducible refine l_nil ?_
          with_reducible refine q_then ?_
          refine c_false F rfl rfl ?_
          with_reducible refine c_skip ?_
          with_reducible refine q_inB ?_
          with_reducible refine q_then ?_
          with_reducible refine c_region ?_
          refine stepD rfl F rfl (o_add (F.ev rfl) (F.ev rfl) (w_i64 (by omega) (by omega)) ?_); clear F; clear a; intro a F
          refine stepD rfl F rfl (o_move (F.ev rfl) ?_); clear F; clear a; intro a F
          with_reducible refine l_nil ?_
          with_reducible refine q_then ?_
          exact ⟨_, by omega, j + 1, R, _, ent, rfl, by omega, by rw [hrt, hR]; simp, by omega, hI, hO, F.only [42, 41, 40, 10, 9, 7] rfl, M.sub (.cons _ (.cons _ (.refl _)))⟩
        | some r =>
          rw [hjn, show optIP (some r) = .tuple #[.agg (ipC r).toArray, .bool true] from rfl] at F
          rw [hjn] at hrt
          have hri : IsIP r := hipl hpi hjn
          have k1 := ipC_len hri.len
          have k2 : seg (ipC r) 0 16 = some (ipC r) := seg_all k1
          refine stepD rfl F rfl (o_move (F.ev rfl) ?_); clear F; clear a; intro a F
          refine stepD rfl F rfl (o_extract (F.ev rfl) rfl ?_); clear F; clear a; intro a F
          refine stepD rfl F rfl (o_extract (F.ev rfl) rfl ?_); clear F; clear a; intro a F
          (refine stepD rfl F rfl (o_alloc M ?_); clear F; clear M; intro b13 w M a F)
          (refine stepN rfl F (o_storeA M (F.ev rfl) (F.ev rfl) (k1) (one_ip _)  (by repeat (first | exact .here | apply Has.there))  (put_all (by rw [k1]; rfl)) (by repeat (first | exact .here | apply Upd.there)) ?_); clear F; clear M; intro w M a F)
          refine stepD rfl F rfl (o_assign (F.ev rfl) ?_); clear F; clear a; intro a F
          with_reducible refine l_nil ?_
          with_reducible refine q_then ?_
          with_reducible refine c_seq ?_
          with_reducible refine c_region ?_
          refine stepD rfl F rfl (o_move (F.ev rfl) ?_); clear F; clear a; intro a F
          with_reducible refine l_nil ?_
          with_reducible refine q_then ?_
          refine c_true F rfl rfl ?_
          with_reducible refine c_region ?_
          refine stepD rfl F rfl (o_load1 M (F.ev rfl) (by repeat (first | exact .here | apply Has.there)) (by first | assumption | rfl) ?_); clear F; clear a; intro a F
          refine stepD rfl F rfl (o_loadA M (F.ev rfl) (by repeat (first | exact .here | apply Has.there)) (by first | assumption | rfl) ?_); clear F; clear a; intro a F
          (refine stepD rfl F rfl (o_buildSlice F M rfl rfl rfl (build_ip1 hri.len) ?_); clear F; clear M; intro b70 w M a F)
          (refine stepD rfl F rfl (o_append hO M (.cons (.cons (.cons (.cons (.cons (.cons (.app .here))))))) (F.ev rfl) (F.ev rfl) (SrcOf.cells' (M.heap .here) (sg_all (by omega)) (one_ip _)) (by omega) (by omega) ?_); clear F; clear M; clear hO; intro u2 ent2 w hO M a F)
          obtain ⟨sp2, sc2, rfl⟩ := hO.slice
          skip
          (refine stepN rfl F (o_store1 M (F.ev rfl) (F.ev rfl) rfl (by repeat (first | exact .here | apply Has.there)) (by rfl) (by repeat (first | exact .here | apply Upd.there)) ?_); clear F; clear M; intro w M a F)
          with_reducible refine l_nil ?_
          with_reducible refine q_inB ?_
          with_reducible refine q_then ?_
          with_reducible refine c_region ?_
          refine stepD rfl F rfl (o_add (F.ev rfl) (F.ev rfl) (w_i64 (by omega) (by omega)) ?_); clear F; clear a; intro a F
          refine stepD rfl F rfl (o_move (F.ev rfl) ?_); clear F; clear a; intro a F
          with_reducible refine l_nil ?_
          with_reducible refine q_then ?_
          refine ⟨_, by omega, j + 1, R ++ [r], _, ent2, rfl, by omega, by rw [hrt, hR]; simp, by simp; omega, ?_, ?_, F.only [42, 41, 40, 10, 9, 7] rfl, M.sub (.cons _ (.cons _ (.cons _ (.refl _))))⟩
          · intro z hz
            rcases List.mem_append.1 hz with h | h
            · exact hI z h
            · simp only [List.mem_singleton] at h
              subst h; exact hri
          · rw [show (R ++ [r]).length = R.length + 1 by simp, ipsC, encL_app, encL_one]; exact hO
      · have ha1 : addr1 iid p1 = none := by
          unfold addr1
          rw [if_neg]
          intro h
          simp only [Bool.and_eq_true, beq_iff_eq, Bool.not_eq_true', beq_eq_false_iff_ne] at h
          exact hc ⟨h.1, h.2.1, h.2.2⟩
        rw [ha1] at hrt
        have fin : ∀ {a : Act} {w : World}, Frm a 77 [] [(42, .int .i64 ((j + 1 : Nat) : Int)), (41, .int .i64 y.o.ps.length), (40, .slice (some ⟨b, o, none⟩) y.o.ps.length cap1), (10, .pointer (some ⟨b10, 0, none⟩)), (9, .pointer (some ⟨b9, 0, none⟩)), (7, .pointer (some ⟨b7, 0, none⟩))] → Mem [] W w ((b12, .cells (piC p1).toArray 111 (0, 0)) :: (b10, .cells (ovC y).toArray 58 (0, 0)) :: (b9, .cells [.slice sp R.length sc].toArray 112 (0, 0)) :: (b7, .cells [.int .u64 iid].toArray 35 (0, 0)) :: (p ++ ent)) → ∃ k', k' < m ∧ ∃ (j : Nat) (R : List (List Int)) (sv : Value) (ent : List (Nat × Obj)), k' = y.o.ps.length - j ∧ j ≤ y.o.ps.length ∧ R = rawL iid (pre.map (·.o)) ++ (y.o.ps.take j).filterMap (addr1 iid) ∧ R.length ≤ 128 + j ∧ (∀ a ∈ R, IsIP a) ∧ OwnS 26 16 sv R.length (ipsC R) ent ∧ Frm a 77 [] [(42, .int .i64 j), (41, .int .i64 y.o.ps.length), (40, .slice (some ⟨b, o, none⟩) y.o.ps.length cap1), (10, .pointer (some ⟨b10, 0, none⟩)), (9, .pointer (some ⟨b9, 0, none⟩)), (7, .pointer (some ⟨b7, 0, none⟩))] ∧ Mem [] W w ((b10, .cells (ovC y).toArray 58 (0, 0)) :: (b9, .cells [sv].toArray 112 (0, 0)) :: (b7, .cells [.int .u64 iid].toArray 35 (0, 0)) :: (p ++ ent)) :=
          fun F M => ⟨_, by omega, j + 1, R, _, ent, rfl, by omega, by rw [hrt, hR]; simp, by omega, hI, hO, F, M.sub (.cons _ (.refl _))⟩
        by_cases h1 : p1.aut = true
        · rw [h1] at g1
          by_cases h2 : p1.bits = 64
          · have h3 : p1.life = 0 := Decidable.byContradiction fun h => hc ⟨h1, h2, h⟩
            with_reducible refine l_nil ?_
            with_reducible refine q_then ?_
            with_reducible refine c_seq ?_
            with_reducible refine c_seq ?_
            with_reducible refine c_region ?_
            refine stepD rfl F rfl (o_fieldAddr (F.ev rfl) ?_); clear F; clear a; intro a F
            refine stepD rfl F rfl (o_load1 M (F.ev rfl) (by repeat (first | exact .here | apply Has.there)) (by first | assumption | rfl) ?_); clear F; clear a; intro a F
            refine stepD rfl F rfl (o_not (F.ev rfl) ?_); clear F; clear a; intro a F
            refine stepD rfl F rfl (o_move (F.ev rfl) ?_); clear F; clear a; intro a F
            refine stepG rfl F rfl rfl rfl (o_fieldAddr (F.ev rfl) ?_); clear F; clear a; intro a F
            refine stepG rfl F rfl rfl rfl (o_fieldAddr (F.ev rfl) ?_); clear F; clear a; intro a F
            refine stepG rfl F rfl rfl rfl (o_load1 M (F.ev rfl) (by repeat (first | exact .here | apply Has.there)) (by first | assumption | rfl) ?_); clear F; clear a; intro a F
            refine stepG rfl F rfl rfl rfl (o_neqF (F.ev rfl) (F.ev rfl) (by omega) ?_); clear F; clear a; intro a F
            refine stepD rfl F rfl (o_pickF (F.ev rfl) (F.ev rfl) ?_); clear F; clear a; intro a F
            refine stepD rfl F rfl (o_move (F.ev rfl) ?_); clear F; clear a; intro a F
            refine stepG rfl F rfl rfl rfl (o_fieldAddr (F.ev rfl) ?_); clear F; clear a; intro a F
            refine stepG rfl F rfl rfl rfl (o_load1 M (F.ev rfl) (by repeat (first | exact .here | apply Has.there)) (by first | assumption | rfl) ?_); clear F; clear a; intro a F
            refine stepG rfl F rfl rfl rfl (o_eqlT (F.ev rfl) (F.ev rfl) (by omega) ?_); clear F; clear a; intro a F
            refine stepD rfl F rfl (o_pickF (F.ev rfl) (F.ev rfl) ?_); clear F; clear a; intro a F
            with_reducible refine l_nil ?_
            with_reducible refine q_then ?_
            refine c_true F rfl rfl ?_
            with_reducible refine c_exit ?_
            with_reducible refine q_thenX ?_
            with_reducible refine q_inBX ?_
            with_reducible refine q_then ?_
            with_reducible refine c_region ?_
            refine stepD rfl F rfl (o_add (F.ev rfl) (F.ev rfl) (w_i64 (by omega) (by omega)) ?_); clear F; clear a; intro a F
            refine stepD rfl F rfl (o_move (F.ev rfl) ?_); clear F; clear a; intro a F
            with_reducible refine l_nil ?_
            with_reducible refine q_then ?_
            exact fin (F.only [42, 41, 40, 10, 9, 7] rfl) M
          · with_reducible refine l_nil ?_
            with_reducible refine q_then ?_
            with_reducible refine c_seq ?_
            with_reducible refine c_seq ?_
            with_reducible refine c_region ?_
            refine stepD rfl F rfl (o_fieldAddr (F.ev rfl) ?_); clear F; clear a; intro a F
            refine stepD rfl F rfl (o_load1 M (F.ev rfl) (by repeat (first | exact .here | apply Has.there)) (by first | assumption | rfl) ?_); clear F; clear a; intro a F
            refine stepD rfl F rfl (o_not (F.ev rfl) ?_); clear F; clear a; intro a F
            refine stepD rfl F rfl (o_move (F.ev rfl) ?_); clear F; clear a; intro a F
            refine stepG rfl F rfl rfl rfl (o_fieldAddr (F.ev rfl) ?_); clear F; clear a; intro a F
            refine stepG rfl F rfl rfl rfl (o_fieldAddr (F.ev rfl) ?_); clear F; clear a; intro a F
            refine stepG rfl F rfl rfl rfl (o_load1 M (F.ev rfl) (by repeat (first | exact .here | apply Has.there)) (by first | assumption | rfl) ?_); clear F; clear a; intro a F
            refine stepG rfl F rfl rfl rfl (o_neqT (F.ev rfl) (F.ev rfl) (by omega) ?_); clear F; clear a; intro a F
            refine stepD rfl F rfl (o_pickF (F.ev rfl) (F.ev rfl) ?_); clear F; clear a; intro a F
            refine stepD rfl F rfl (o_move (F.ev rfl) ?_); clear F; clear a; intro a F
            refine stepOff F rfl rfl rfl rfl ?_; clear F; clear a; intro a F
            refine stepOff F rfl rfl rfl rfl ?_; clear F; clear a; intro a F
            refine stepOff F rfl rfl rfl rfl ?_; clear F; clear a; intro a F
            refine stepD rfl F rfl (o_pickT (F.ev rfl) (F.ev rfl) ?_); clear F; clear a; intro a F
            with_reducible refine l_nil ?_
            with_reducible refine q_then ?_
            refine c_true F rfl rfl ?_
            with_reducible refine c_exit ?_
            with_reducible refine q_thenX ?_
            with_reducible refine q_inBX ?_
            with_reducible refine q_then ?_
            with_reducible refine c_region ?_
            refine stepD rfl F rfl (o_add (F.ev rfl) (F.ev rfl) (w_i64 (by omega) (by omega)) ?_); clear F; clear a; intro a F
            refine stepD rfl F rfl (o_move (F.ev rfl) ?_); clear F; clear a; intro a F
            with_reducible refine l_nil ?_
            with_reducible refine q_then ?_
            exact fin (F.only [42, 41, 40, 10, 9, 7] rfl) M
        · rw [show p1.aut = false by simpa using h1] at g1
          with_reducible refine l_nil ?_
          with_reducible refine q_then ?_
          with_reducible refine c_seq ?_
          with_reducible refine c_seq ?_
          with_reducible refine c_region ?_
          refine stepD rfl F rfl (o_fieldAddr (F.ev rfl) ?_); clear F; clear a; intro a F
          refine stepD rfl F rfl (o_load1 M (F.ev rfl) (by repeat (first | exact .here | apply Has.there)) (by first | assumption | rfl) ?_); clear F; clear a; intro a F
          refine stepD rfl F rfl (o_not (F.ev rfl) ?_); clear F; clear a; intro a F
          refine stepD rfl F rfl (o_move (F.ev rfl) ?_); clear F; clear a; intro a F
          refine stepOff F rfl rfl rfl rfl ?_; clear F; clear a; intro a F
          refine stepOff F rfl rfl rfl rfl ?_; clear F; clear a; intro a F
          refine stepOff F rfl rfl rfl rfl ?_; clear F; clear a; intro a F
          refine stepOff F rfl rfl rfl rfl ?_; clear F; clear a; intro a F
          refine stepD rfl F rfl (o_pickT (F.ev rfl) (F.ev rfl) ?_); clear F; clear a; intro a F
          refine stepD rfl F rfl (o_move (F.ev rfl) ?_); clear F; clear a; intro a F
          refine stepOff F rfl rfl rfl rfl ?_; clear F; clear a; intro a F
          refine stepOff F rfl rfl rfl rfl ?_; clear F; clear a; intro a F
          refine stepOff F rfl rfl rfl rfl ?_; clear F; clear a; intro a F
          refine stepD rfl F rfl (o_pickT (F.ev rfl) (F.ev rfl) ?_); clear F; clear a; intro a F
          with_reducible refine l_nil ?_
          with_reducible refine q_then ?_
          refine c_true F rfl rfl ?_
          with_reducible refine c_exit ?_
          with_reducible refine q_thenX ?_
          with_reducible refine q_inBX ?_
          with_reducible refine q_then ?_
          with_reducible refine c_region ?_
          refine stepD rfl F rfl (o_add (F.ev rfl) (F.ev rfl) (w_i64 (by omega) (by omega)) ?_); clear F; clear a; intro a F
          refine stepD rfl F rfl (o_move (F.ev rfl) ?_); clear F; clear a; intro a F
          with_reducible refine l_nil ?_
          with_reducible refine q_then ?_
          exact fin (F.only [42, 41, 40, 10, 9, 7] rfl) M
    · obtain rfl : j = y.o.ps.length := by omega
      with_reducible refine c_seq ?_
      with_reducible refine c_region ?_
      refine stepD rfl F rfl (o_lssF (F.ev rfl) (F.ev rfl) (by omega) ?_); clear F; clear a; intro a F
      with_reducible refine l_nil ?_
      with_reducible refine q_then ?_
      with_reducible refine c_seq ?_
      refine c_false F rfl rfl ?_
      with_reducible refine c_exit ?_
      with_reducible refine q_thenX ?_
      with_reducible refine q_thenX ?_
      with_reducible refine q_inBX ?_
      with_reducible refine q_inB ?_
      have hR2 : rawL iid ((pre ++ [y]).map (·.o)) = R := by
        rw [hR, List.take_length]; simp [rawL, rawA]
      refine ⟨_, ⟨sv, ent, by rw [hR2]; exact hO, by rw [hR2]; exact hI, rfl⟩, (M.perm (l' := (([(b9, .cells [sv].toArray 112 (0, 0)), (b7, .cells [.int .u64 iid].toArray 35 (0, 0))] ++ ent) ++ p) ++ [(b10, .cells (ovC y).toArray 58 (0, 0))]) (by classical exact List.perm_iff_count.2 fun _ => by simp only [List.count_append, List.count_cons, List.count_nil, Nat.add_zero, Nat.zero_add] <;> ac_rfl)).sub (List.sublist_append_left _ _)⟩
  case done =>
    clear F M
    rintro D ys _ p w a rfl ⟨sv, ent, hO, hI, rfl⟩ M F
    rw [curX_map] at hO hI
    replace M := M.perm (l' := (D, .deferred (some [])) :: (b9, .cells [sv].toArray 112 (0, 0)) :: (b7, .cells [.int .u64 iid].toArray 35 (0, 0)) :: (p ++ ent)) (by classical exact List.perm_iff_count.2 fun _ => by simp only [List.count_append, List.count_cons, List.count_nil, Nat.add_zero, Nat.zero_add] <;> ac_rfl)
    with_reducible refine q_inB ?_
    with_reducible refine q_then ?_
    with_reducible refine c_seq ?_
    with_reducible refine c_region ?_
    refine stepD rfl F rfl (o_load1 M (F.ev rfl) (by repeat (first | exact .here | apply Has.there)) (by first | assumption | rfl) ?_); clear F; clear a; intro a F
    (refine stepD rfl F rfl (o_call (F.ev rfl) (F.evs rfl) (Cal.mono (hso _ _ _ _ _ _ _ _ M hO (.cons (.cons (.cons (.app .here)))) hI hp1) ?_)); clear F; clear a; clear M; rintro _ w ⟨ls1, ent1, hq1, hO1, M⟩ a F)
    with_reducible refine l_nil ?_
    with_reducible refine q_then ?_
    with_reducible refine c_seq ?_
    with_reducible refine c_region ?_
    refine stepD rfl F rfl (o_load1 M (F.ev rfl) (by repeat (first | exact .here | apply Has.there)) (by first | assumption | rfl) ?_); clear F; clear a; intro a F
    (refine stepD rfl F rfl (o_call (F.ev rfl) (F.evs rfl) (Cal.mono (hco _ _ _ _ _ _ _ _ M hO1 (.cons (.cons (.cons (.app .here)))) (hp2 _ hq1)) ?_)); clear F; clear a; clear M; rintro r w ⟨ls2, ent2, hq2, hO2, M⟩ a F)
    refine stepD rfl F rfl (o_assign (F.ev rfl) ?_); clear F; clear a; intro a F
    with_reducible refine l_nil ?_
    with_reducible refine q_then ?_
    with_reducible refine c_ret ?_
    exact p_ret1 F M .here rfl fun w' M' => ⟨.cons (.tmp (F.ev rfl)) .nil, ls1, ls2, hq1, hq2, hO2.slAt M' fun p hp => by simp [hp], M'.ext⟩
end Go.Proofs.Ytainnefmobfcjaa
/-! F9 -/
namespace Go.Proofs.Ytainnefmobfcjaa
set_option linter.unusedVariables false
set_option linter.unusedSimpArgs false
open Go.RowKit
attribute [local irreducible] OpTo wpListIn Code.wpIn MW Cal
theorem sortOk1 : SortOk (fun ls => ls.length = 1) (fun ls ls' => ls' = ls) := by
  intro S W0 w l f v ls ent M hO hl hI h1
  rcases hO with ⟨_, h0, _, _⟩ | ⟨b, cap, junk, rfl, rfl, hxl, hjl, hnc⟩
  · omega
  have hO2 : OwnS 26 16 (.slice (some ⟨b, 0, none⟩) ls.length cap) ls.length (ipsC ls) [(b, .cells (ipsC ls ++ junk).toArray 26 (0, 0))] := .inr ⟨b, cap, junk, rfl, rfl, hxl, hjl, hnc⟩
  obtain ⟨lr, rfl, hf⟩ := hl.spec
  rw [h1] at hO2 ⊢
  exact Cal.mono (sort1_c b cap _ w) fun _ _ h => ⟨ls, _, rfl, by rw [h1]; exact hO2, by rw [hf]; exact M.later h.2⟩
theorem compOk1 : CompOk (fun ls => ls.length = 1) (fun ls ls' => ls' = ls) := by
  intro S W0 w l f v ls ent M hO hl h1
  rcases hO with ⟨_, h0, _, _⟩ | ⟨b, cap, junk, rfl, rfl, hxl, hjl, hnc⟩
  · omega
  have hO2 : OwnS 26 16 (.slice (some ⟨b, 0, none⟩) ls.length cap) ls.length (ipsC ls) [(b, .cells (ipsC ls ++ junk).toArray 26 (0, 0))] := .inr ⟨b, cap, junk, rfl, rfl, hxl, hjl, hnc⟩
  obtain ⟨lr, rfl, hf⟩ := hl.spec
  rw [h1] at hO2 ⊢
  refine Cal.mono (compact1_c b cap w) ?_
  rintro _ w' ⟨rfl, hE⟩
  exact ⟨ls, _, rfl, by rw [h1]; exact hO2, by rw [hf]; exact M.later hE⟩
def offG : Off := ⟨⟨[1, 0, 0, 0, 0, 0, 0, 0, 0, 0, 0, 0, 0, 0, 0, 0], 2, 9⟩, [⟨[32, 1, 0, 0, 0, 0, 0, 0, 0, 0, 0, 0, 0, 0, 0, 0], 64, false, true, 1⟩], []⟩
theorem isIP_dec (l : List Int) (h : (decide (l.length = 16) && l.all fun x => decide (0 ≤ x) && decide (x < 256)) = true) : IsIP l := by
  simp only [Bool.and_eq_true, decide_eq_true_eq, List.all_eq_true] at h
  exact ⟨h.1, h.2⟩
theorem offG_is : IsOff offG := ⟨isIP_dec _ (by decide), by simp [offG]; exact isIP_dec _ (by decide), by simp [offG]⟩
theorem offG_acc : acceptV [] 5 offG = ([offG], 0) := by decide +kernel
theorem offG_valid : validL [offG] = true := by decide +kernel
theorem offG_raw : rawL 144115188075855873 (curO [offG] 5) = [[32, 1, 0, 0, 0, 0, 0, 0, 2, 0, 0, 0, 0, 0, 0, 1]] := by decide +kernel
theorem offG_iid : iidA 3 0 1 = some 144115188075855873 := by decide +kernel
set_option maxHeartbeats 4000000 in
theorem offered_c (W : World) : Cal Try.prog 22 [].toArray W fun r w' => r = .bool true ∧ Ext [] W w' := by
  refine fn_ofM (n := 37) [] Try.func22 rfl rfl rfl ?_
  intro a w F M hwW
  with_reducible refine c_seq ?_
  with_reducible refine c_region ?_
  refine stepD rfl F rfl (o_assign (F.ev rfl) ?_); clear F; clear a; intro a F
  with_reducible refine l_nil ?_
  with_reducible refine q_then ?_
  with_reducible refine c_seq ?_
  with_reducible refine c_region ?_
  refine stepD rfl F rfl (o_build F rfl rfl ?_); clear F; clear a; intro a F
  refine stepD rfl F rfl (o_build F rfl rfl ?_); clear F; clear a; intro a F
  refine stepD rfl F rfl (o_build F rfl rfl ?_); clear F; clear a; intro a F
  refine stepD rfl F rfl (o_build F rfl rfl ?_); clear F; clear a; intro a F
  (refine stepD rfl F rfl (o_buildSlice F M rfl rfl rfl rfl ?_); clear F; clear M; intro b9 w M a F)
  refine stepD rfl F rfl (o_build F rfl rfl ?_); clear F; clear a; intro a F
  (refine stepD rfl F rfl (o_alloc M ?_); clear F; clear M; intro b1 w M a F)
  (refine stepN rfl F (o_storeA M (F.ev rfl) (F.ev rfl) (by rfl) (by rfl) (by repeat (first | exact .here | apply Has.there)) (by rfl) (by repeat (first | exact .here | apply Upd.there)) ?_); clear F; clear M; intro w M a F)
  with_reducible refine l_nil ?_
  with_reducible refine q_then ?_
  with_reducible refine c_seq ?_
  with_reducible refine c_region ?_
  refine stepD rfl F rfl (o_loadA M (F.ev rfl) (by repeat (first | exact .here | apply Has.there)) (by first | assumption | rfl) ?_); clear F; clear a; intro a F
  have hA : OffAt w ⟨offG, .slice (some ⟨b9, 0, none⟩) 1 1, .slice none 0 0⟩ :=
    ⟨⟨_, _, rfl, by simp [offG], by simp, by simp [offG, encL, piC, pfC, ipC], fun _ => ⟨b9, 0, _, _, _, rfl, M.heap (.there .here), rfl⟩⟩, SlAt.nil _ _⟩
  (refine stepD rfl F rfl (o_call (F.ev rfl) (F.evs (vs := [.slice none 0 0, .int .i64 5, .agg (ovC ⟨offG, .slice (some ⟨b9, 0, none⟩) 1 1, .slice none 0 0⟩).toArray]) rfl) (Cal.mono (accept_c [] (by simp) _ 5 ⟨offG, .slice (some ⟨b9, 0, none⟩) 1 1, .slice none 0 0⟩ offG_is _ (SlAt.nil _ _) (by simp) hA) ?_)); clear F; clear a; rintro _ w ⟨s, rfl, hof, hE⟩ a F; replace M := M.later hE; replace hof := hof.at; clear hE)
  rw [show (([] : List OV).map (·.o)) = [] from rfl, offG_acc] at F hof
  dsimp only at F hof
  obtain ⟨zs, hz, hS, hZ⟩ := hof
  have hzo : ∀ z ∈ zs, IsOff z.o := fun z hzm => by
    have : z.o ∈ [offG] := by rw [← hz]; exact List.mem_map_of_mem hzm
    simp only [List.mem_singleton] at this
    rw [this]; exact offG_is
  have hzl : zs.length = 1 := by simpa using congrArg List.length hz
  refine stepD rfl F rfl (o_move (F.ev rfl) ?_); clear F; clear a; intro a F
  refine stepD rfl F rfl (o_extract (F.ev rfl) rfl ?_); clear F; clear a; intro a F
  refine stepD rfl F rfl (o_extract (F.ev rfl) rfl ?_); clear F; clear a; intro a F
  refine stepD rfl F rfl (o_assign (F.ev rfl) ?_); clear F; clear a; intro a F
  refine stepD rfl F rfl (o_assign (F.ev rfl) ?_); clear F; clear a; intro a F
  with_reducible refine l_nil ?_
  with_reducible refine q_then ?_
  with_reducible refine c_seq ?_
  with_reducible refine c_region ?_
  refine stepD rfl F rfl (o_move (F.ev rfl) ?_); clear F; clear a; intro a F
  (refine stepD rfl F rfl (o_call (F.ev rfl) (F.evs rfl) (Cal.mono (addresses_c zs hzo _ 5 1 (by omega) 144115188075855873 (by omega) offG_iid _ hS hZ (by rw [hz]; exact offG_valid) (by decide) (by omega) sortOk1 compOk1 (by rw [hz, offG_raw]; rfl) (by rintro _ rfl; rw [hz, offG_raw]; rfl)) ?_)); clear F; clear a; rintro _ w ⟨ls1, ls2, rfl, rfl, hR, hE⟩ a F)
  have hS2 := hS.later hE
  replace M := M.later hE
  clear hE hA hS hZ
  rw [hz, offG_raw] at hR
  obtain ⟨q2, c2, rfl, _⟩ := hS2
  obtain ⟨q3, c3, rfl, _, _, _, hm3⟩ := hR
  obtain ⟨b3, o3, cs3, t3, fz3, rfl, hb3, hs3⟩ := hm3 (by simp)
  rw [hzl] at F
  rw [show ([[32, 1, 0, 0, 0, 0, 0, 0, 2, 0, 0, 0, 0, 0, 0, 1]] : List (List Int)).length = 1 from rfl] at F
  have hs4 : seg cs3 (o3 + (0 : Int).toNat * 16) 16 = some (ipC [32, 1, 0, 0, 0, 0, 0, 0, 2, 0, 0, 0, 0, 0, 0, 1]) := by simpa [encL] using hs3
  refine stepD rfl F rfl (o_assign (F.ev rfl) ?_); clear F; clear a; intro a F
  with_reducible refine l_nil ?_
  with_reducible refine q_then ?_
  with_reducible refine c_seq ?_
  with_reducible refine c_region ?_
  refine stepD rfl F rfl (o_move (F.ev rfl) ?_); clear F; clear a; intro a F
  refine stepD rfl F rfl (o_eqlT (F.ev rfl) (F.ev rfl) (by omega) ?_); clear F; clear a; intro a F
  refine stepD rfl F rfl (o_move (F.ev rfl) ?_); clear F; clear a; intro a F
  refine stepG rfl F rfl rfl rfl (o_move (F.ev rfl) ?_); clear F; clear a; intro a F
  refine stepG rfl F rfl rfl rfl (o_lenSl (F.ev rfl) ?_); clear F; clear a; intro a F
  refine stepG rfl F rfl rfl rfl (o_eqlT (F.ev rfl) (F.ev rfl) (by omega) ?_); clear F; clear a; intro a F
  refine stepD rfl F rfl (o_pickT (F.ev rfl) (F.ev rfl) ?_); clear F; clear a; intro a F
  refine stepD rfl F rfl (o_move (F.ev rfl) ?_); clear F; clear a; intro a F
  refine stepG rfl F rfl rfl rfl (o_move (F.ev rfl) ?_); clear F; clear a; intro a F
  refine stepG rfl F rfl rfl rfl (o_lenSl (F.ev rfl) ?_); clear F; clear a; intro a F
  refine stepG rfl F rfl rfl rfl (o_eql (F.ev rfl) (F.ev rfl) ?_); clear F; clear a; intro a F
  refine stepD rfl F rfl (o_pickT (F.ev rfl) (F.ev rfl) ?_); clear F; clear a; intro a F
  refine stepD rfl F rfl (o_move (F.ev rfl) ?_); clear F; clear a; intro a F
  refine stepG rfl F rfl rfl rfl (o_move (F.ev rfl) ?_); clear F; clear a; intro a F
  refine stepG rfl F rfl rfl rfl (o_indexSl (F.ev rfl) (F.ev rfl) (by omega) (by omega) ?_); clear F; clear a; intro a F
  (refine stepG rfl F rfl rfl rfl (o_loadHA (F.ev rfl) hb3 hs4 ?_); clear F; clear a; intro a F)
  refine stepG rfl F rfl rfl rfl (o_build F rfl rfl ?_); clear F; clear a; intro a F
  refine stepG rfl F rfl rfl rfl (o_eqlA (F.ev rfl) (F.ev rfl) (by first | assumption | rfl) (by first | assumption | rfl) ?_); clear F; clear a; intro a F
  refine stepD rfl F rfl (o_pickT (F.ev rfl) (F.ev rfl) ?_); clear F; clear a; intro a F
  refine stepD rfl F rfl (o_assign (F.ev rfl) ?_); clear F; clear a; intro a F
  with_reducible refine l_nil ?_
  with_reducible refine q_then ?_
  with_reducible refine c_ret ?_
  refine p_ret F rfl (.cons (.tmp (F.ev rfl)) .nil) ?_
  exact ⟨rfl, M.ext⟩
end Go.Proofs.Ytainnefmobfcjaa
/-! FI -/
namespace Go.Proofs.Ytainnefmobfcjaa
set_option linter.unusedVariables false
set_option linter.unusedSimpArgs false
open Go.RowKit
attribute [local irreducible] OpTo wpListIn Code.wpIn MW Cal
theorem NewV.mono {n0 n1 : Nat} {v : Value} (h : NewV n1 v) (hle : n0 ≤ n1) : NewV n0 v := fun b o s n c e => Nat.le_trans hle (h b o s n c e)
theorem NewV.notIn {n0 bt : Nat} {v : Value} (h : NewV n0 v) (hbt : bt < n0) : ∀ b o s k c, v = .slice (some ⟨b, o, s⟩) k c → b ∉ [bt] := fun b o s k c e hb => by
  have := h b o s k c e
  simp only [List.mem_singleton] at hb
  omega
theorem OffNew.mono {n0 n1 : Nat} {W : World} {x : OV} (h : OffNew n1 W x) (hle : n0 ≤ n1) : OffNew n0 W x := ⟨h.1, h.2.1.mono hle, h.2.2.mono hle⟩
theorem OffNew.laterB {n0 bt : Nat} {W w : World} {x : OV} (h : OffNew n0 W x) (hbt : bt < n0) (E : Ext [bt] W w) : OffNew n0 w x :=
  ⟨⟨h.1.1.laterB (h.2.1.notIn hbt) E, h.1.2.laterB (h.2.2.notIn hbt) E⟩, h.2⟩
theorem OffsN.mono {n0 n1 : Nat} {W : World} {v : Value} {os : List Off} (h : OffsN n1 W v os) (hle : n0 ≤ n1) : OffsN n0 W v os := by
  obtain ⟨zs, h1, h2, h3, h4, h5⟩ := h
  exact ⟨zs, h1, h2, h3, h4.mono hle, fun z hz => ⟨(h5 z hz).1.mono hle, (h5 z hz).2.mono hle⟩⟩
theorem OffsN.laterB {n0 bt : Nat} {W w : World} {v : Value} {os : List Off} (h : OffsN n0 W v os) (hbt : bt < n0) (E : Ext [bt] W w) : OffsN n0 w v os := by
  obtain ⟨zs, h1, h2, h3, h4, h5⟩ := h
  exact ⟨zs, h1, h2.laterB (h4.notIn hbt) E, fun z hz => (OffNew.laterB ⟨h3 z hz, h5 z hz⟩ hbt E).1, h4, h5⟩
/-- offers off the tape -/
structure OffsO (n0 : Nat) (W : World) (v : Value) (os : List Off) : Prop where
  at_ : OffsN n0 W v os
  is : ∀ o ∈ os, IsOff o
  len : os.length ≤ 8
  small : ∀ o ∈ os, o.ps.length ≤ 16 ∧ o.cs.length ≤ 16
theorem OffsO.laterB {n0 bt : Nat} {W w : World} {v : Value} {os : List Off} (h : OffsO n0 W v os) (hbt : bt < n0) (E : Ext [bt] W w) : OffsO n0 w v os := ⟨h.at_.laterB hbt E, h.is, h.len, h.small⟩
/-- the memory, seen from here on -/
theorem Mem.re {S : List Nat} {W w : World} {l : List (Nat × Obj)} (M : Mem S W w l) (h : ∀ p ∈ l, p.1 ∈ S) : Mem S w w l := ⟨Ext.refl _ _, M.at_, M.nd, fun p hp => .inl (h p hp)⟩
/-- its lists lie elsewhere -/
def OffNb (bt : Nat) (x : OV) : Prop := (∀ b o s k c, x.u = .slice (some ⟨b, o, s⟩) k c → b ∉ [bt]) ∧ ∀ b o s k c, x.v = .slice (some ⟨b, o, s⟩) k c → b ∉ [bt]
theorem OffAt.laterB {bt : Nat} {W w : World} {x : OV} (h : OffAt W x) (hn : OffNb bt x) (E : Ext [bt] W w) : OffAt w x := ⟨h.1.laterB hn.1 E, h.2.laterB hn.2 E⟩
def z16 : List Int := [0, 0, 0, 0, 0, 0, 0, 0, 0, 0, 0, 0, 0, 0, 0, 0]
end Go.Proofs.Ytainnefmobfcjaa
/-! FJ -/
namespace Go.Proofs.Ytainnefmobfcjaa
set_option linter.unusedVariables false
set_option linter.unusedSimpArgs false
open Go.RowKit
attribute [local irreducible] OpTo wpListIn Code.wpIn MW Cal
theorem Mem.unF {S : List Nat} {W w1 w : World} {l : List (Nat × Obj)} (M : Mem S w1 w l) (E : Ext [] W w1) (hS : ∀ b ∈ S, W.heap.size ≤ b) : Mem [] W w l :=
  ⟨(E.any.trans M.ext).fresh fun k hk => .inr (hS k hk), M.at_, M.nd, fun p hp => .inr ((M.own p hp).elim (hS _) fun h => Nat.le_trans E.size h)⟩
theorem Mem.reS {S : List Nat} {W w : World} {l : List (Nat × Obj)} (M : Mem S W w l) (S' : List Nat) (h : ∀ p ∈ l, p.1 ∈ S') : Mem S' w w l := ⟨Ext.refl _ _, M.at_, M.nd, fun p hp => .inl (h p hp)⟩
/-- an offer in new memory, as an answer -/
def OffP (n0 : Nat) : Pred := fun v w => ∃ y, v = .agg (ovC y).toArray ∧ IsOff y.o ∧ OffNew n0 w y
theorem OffP.staysBut {n0 bt : Nat} (hbt : bt < n0) : Stays (keepBut [bt]) (OffP n0) := fun v w w' ⟨y, h1, h2, h3⟩ h => ⟨y, h1, h2, h3.laterB hbt h⟩
theorem OffsO.mono {n0 n1 : Nat} {W : World} {v : Value} {os : List Off} (h : OffsO n1 W v os) (hle : n0 ≤ n1) : OffsO n0 W v os := ⟨h.at_.mono hle, h.is, h.len, h.small⟩
end Go.Proofs.Ytainnefmobfcjaa
/-! J0 -/
namespace Go.Proofs.Ytainnefmobfcjaa
set_option linter.unusedVariables false
set_option linter.unusedSimpArgs false
open Go.RowKit
/-! Msg -/
structure Msg where
  ty : Int
  hops : Int
  life : Int
  tgt : List Int
  sm : Int
  ss : Int
  se : Int
  oe : Int
  os : Int
  ost : Int
  ol : Int
  ho : Bool
  bv : Int
  bl : Int
  br : List Int
  hb : Bool
  deriving DecidableEq
def msC (o : Msg) (ps : Value) (cs : Value) : List Value := [.int .u8 o.ty, .int .u8 o.hops, .int .u16 o.life] ++ (ipC o.tgt ++ ([.int .i64 o.sm, .int .u16 o.ss, .int .u64 o.se, .int .u64 o.oe, .int .u8 o.os, .int .u8 o.ost, .int .u16 o.ol, .bool o.ho, ps, cs, .int .u32 o.bv, .int .u16 o.bl] ++ (ipC o.br ++ ([.bool o.hb]))))
def IsMs (o : Msg) : Prop := IsIP o.tgt ∧ IsIP o.br
theorem ms_len {o : Msg} (h : IsMs o) (ps : Value) (cs : Value) : (msC o ps cs).length = 48 := by
  obtain ⟨f_ty, f_hops, f_life, f_tgt, f_sm, f_ss, f_se, f_oe, f_os, f_ost, f_ol, f_ho, f_bv, f_bl, f_br, f_hb⟩ := o
  obtain ⟨x0_0, x0_1, x0_2, x0_3, x0_4, x0_5, x0_6, x0_7, x0_8, x0_9, x0_10, x0_11, x0_12, x0_13, x0_14, x0_15, e0⟩ := len16 (show f_tgt.length = 16 from (h.1).len)
  obtain ⟨x1_0, x1_1, x1_2, x1_3, x1_4, x1_5, x1_6, x1_7, x1_8, x1_9, x1_10, x1_11, x1_12, x1_13, x1_14, x1_15, e1⟩ := len16 (show f_br.length = 16 from (h.2).len)
  subst e0
  subst e1
  rfl
theorem ms_all {o : Msg} (h : IsMs o) (ps : Value) (cs : Value) : seg (msC o ps cs) 0 48 = some (msC o ps cs) := sg_all (ms_len h ps cs)
theorem ms_ty {o : Msg} (h : IsMs o) (ps : Value) (cs : Value) : nth (msC o ps cs) 0 = some (.int .u8 o.ty) := by
  obtain ⟨f_ty, f_hops, f_life, f_tgt, f_sm, f_ss, f_se, f_oe, f_os, f_ost, f_ol, f_ho, f_bv, f_bl, f_br, f_hb⟩ := o
  obtain ⟨x0_0, x0_1, x0_2, x0_3, x0_4, x0_5, x0_6, x0_7, x0_8, x0_9, x0_10, x0_11, x0_12, x0_13, x0_14, x0_15, e0⟩ := len16 (show f_tgt.length = 16 from (h.1).len)
  obtain ⟨x1_0, x1_1, x1_2, x1_3, x1_4, x1_5, x1_6, x1_7, x1_8, x1_9, x1_10, x1_11, x1_12, x1_13, x1_14, x1_15, e1⟩ := len16 (show f_br.length = 16 from (h.2).len)
  subst e0
  subst e1
  rfl
theorem ms_put_ty {o : Msg} (h : IsMs o) (ps : Value) (cs : Value) (z : Int) : put (msC o ps cs) 0 [.int .u8 z] = some (msC { o with ty := z } ps cs) := by
  obtain ⟨f_ty, f_hops, f_life, f_tgt, f_sm, f_ss, f_se, f_oe, f_os, f_ost, f_ol, f_ho, f_bv, f_bl, f_br, f_hb⟩ := o
  obtain ⟨x0_0, x0_1, x0_2, x0_3, x0_4, x0_5, x0_6, x0_7, x0_8, x0_9, x0_10, x0_11, x0_12, x0_13, x0_14, x0_15, e0⟩ := len16 (show f_tgt.length = 16 from (h.1).len)
  obtain ⟨x1_0, x1_1, x1_2, x1_3, x1_4, x1_5, x1_6, x1_7, x1_8, x1_9, x1_10, x1_11, x1_12, x1_13, x1_14, x1_15, e1⟩ := len16 (show f_br.length = 16 from (h.2).len)
  subst e0
  subst e1
  rfl
theorem ms_ps {o : Msg} (h : IsMs o) (ps : Value) (cs : Value) : nth (msC o ps cs) 27 = some ps := by
  obtain ⟨f_ty, f_hops, f_life, f_tgt, f_sm, f_ss, f_se, f_oe, f_os, f_ost, f_ol, f_ho, f_bv, f_bl, f_br, f_hb⟩ := o
  obtain ⟨x0_0, x0_1, x0_2, x0_3, x0_4, x0_5, x0_6, x0_7, x0_8, x0_9, x0_10, x0_11, x0_12, x0_13, x0_14, x0_15, e0⟩ := len16 (show f_tgt.length = 16 from (h.1).len)
  obtain ⟨x1_0, x1_1, x1_2, x1_3, x1_4, x1_5, x1_6, x1_7, x1_8, x1_9, x1_10, x1_11, x1_12, x1_13, x1_14, x1_15, e1⟩ := len16 (show f_br.length = 16 from (h.2).len)
  subst e0
  subst e1
  rfl
theorem ms_cs {o : Msg} (h : IsMs o) (ps : Value) (cs : Value) : nth (msC o ps cs) 28 = some cs := by
  obtain ⟨f_ty, f_hops, f_life, f_tgt, f_sm, f_ss, f_se, f_oe, f_os, f_ost, f_ol, f_ho, f_bv, f_bl, f_br, f_hb⟩ := o
  obtain ⟨x0_0, x0_1, x0_2, x0_3, x0_4, x0_5, x0_6, x0_7, x0_8, x0_9, x0_10, x0_11, x0_12, x0_13, x0_14, x0_15, e0⟩ := len16 (show f_tgt.length = 16 from (h.1).len)
  obtain ⟨x1_0, x1_1, x1_2, x1_3, x1_4, x1_5, x1_6, x1_7, x1_8, x1_9, x1_10, x1_11, x1_12, x1_13, x1_14, x1_15, e1⟩ := len16 (show f_br.length = 16 from (h.2).len)
  subst e0
  subst e1
  rfl
theorem ms_bv {o : Msg} (h : IsMs o) (ps : Value) (cs : Value) : nth (msC o ps cs) 29 = some (.int .u32 o.bv) := by
  obtain ⟨f_ty, f_hops, f_life, f_tgt, f_sm, f_ss, f_se, f_oe, f_os, f_ost, f_ol, f_ho, f_bv, f_bl, f_br, f_hb⟩ := o
  obtain ⟨x0_0, x0_1, x0_2, x0_3, x0_4, x0_5, x0_6, x0_7, x0_8, x0_9, x0_10, x0_11, x0_12, x0_13, x0_14, x0_15, e0⟩ := len16 (show f_tgt.length = 16 from (h.1).len)
  obtain ⟨x1_0, x1_1, x1_2, x1_3, x1_4, x1_5, x1_6, x1_7, x1_8, x1_9, x1_10, x1_11, x1_12, x1_13, x1_14, x1_15, e1⟩ := len16 (show f_br.length = 16 from (h.2).len)
  subst e0
  subst e1
  rfl
theorem ms_bl {o : Msg} (h : IsMs o) (ps : Value) (cs : Value) : nth (msC o ps cs) 30 = some (.int .u16 o.bl) := by
  obtain ⟨f_ty, f_hops, f_life, f_tgt, f_sm, f_ss, f_se, f_oe, f_os, f_ost, f_ol, f_ho, f_bv, f_bl, f_br, f_hb⟩ := o
  obtain ⟨x0_0, x0_1, x0_2, x0_3, x0_4, x0_5, x0_6, x0_7, x0_8, x0_9, x0_10, x0_11, x0_12, x0_13, x0_14, x0_15, e0⟩ := len16 (show f_tgt.length = 16 from (h.1).len)
  obtain ⟨x1_0, x1_1, x1_2, x1_3, x1_4, x1_5, x1_6, x1_7, x1_8, x1_9, x1_10, x1_11, x1_12, x1_13, x1_14, x1_15, e1⟩ := len16 (show f_br.length = 16 from (h.2).len)
  subst e0
  subst e1
  rfl
theorem ms_br {o : Msg} (h : IsMs o) (ps : Value) (cs : Value) : seg (msC o ps cs) 31 16 = some (ipC o.br) := by
  obtain ⟨f_ty, f_hops, f_life, f_tgt, f_sm, f_ss, f_se, f_oe, f_os, f_ost, f_ol, f_ho, f_bv, f_bl, f_br, f_hb⟩ := o
  obtain ⟨x0_0, x0_1, x0_2, x0_3, x0_4, x0_5, x0_6, x0_7, x0_8, x0_9, x0_10, x0_11, x0_12, x0_13, x0_14, x0_15, e0⟩ := len16 (show f_tgt.length = 16 from (h.1).len)
  obtain ⟨x1_0, x1_1, x1_2, x1_3, x1_4, x1_5, x1_6, x1_7, x1_8, x1_9, x1_10, x1_11, x1_12, x1_13, x1_14, x1_15, e1⟩ := len16 (show f_br.length = 16 from (h.2).len)
  subst e0
  subst e1
  rfl
theorem ms_hb {o : Msg} (h : IsMs o) (ps : Value) (cs : Value) : nth (msC o ps cs) 47 = some (.bool o.hb) := by
  obtain ⟨f_ty, f_hops, f_life, f_tgt, f_sm, f_ss, f_se, f_oe, f_os, f_ost, f_ol, f_ho, f_bv, f_bl, f_br, f_hb⟩ := o
  obtain ⟨x0_0, x0_1, x0_2, x0_3, x0_4, x0_5, x0_6, x0_7, x0_8, x0_9, x0_10, x0_11, x0_12, x0_13, x0_14, x0_15, e0⟩ := len16 (show f_tgt.length = 16 from (h.1).len)
  obtain ⟨x1_0, x1_1, x1_2, x1_3, x1_4, x1_5, x1_6, x1_7, x1_8, x1_9, x1_10, x1_11, x1_12, x1_13, x1_14, x1_15, e1⟩ := len16 (show f_br.length = 16 from (h.2).len)
  subst e0
  subst e1
  rfl
theorem ms_put_hb {o : Msg} (h : IsMs o) (ps : Value) (cs : Value) (z : Bool) : put (msC o ps cs) 47 [.bool z] = some (msC { o with hb := z } ps cs) := by
  obtain ⟨f_ty, f_hops, f_life, f_tgt, f_sm, f_ss, f_se, f_oe, f_os, f_ost, f_ol, f_ho, f_bv, f_bl, f_br, f_hb⟩ := o
  obtain ⟨x0_0, x0_1, x0_2, x0_3, x0_4, x0_5, x0_6, x0_7, x0_8, x0_9, x0_10, x0_11, x0_12, x0_13, x0_14, x0_15, e0⟩ := len16 (show f_tgt.length = 16 from (h.1).len)
  obtain ⟨x1_0, x1_1, x1_2, x1_3, x1_4, x1_5, x1_6, x1_7, x1_8, x1_9, x1_10, x1_11, x1_12, x1_13, x1_14, x1_15, e1⟩ := len16 (show f_br.length = 16 from (h.2).len)
  subst e0
  subst e1
  rfl
theorem ms_one (o : Msg) (ps : Value) (cs : Value) (hps : ps.oneCell' = true) (hcs : cs.oneCell' = true) : (msC o ps cs).all (·.oneCell') = true := by
  simp only [pfC, ipC, msC, List.all_append, List.all_cons, List.all_nil, hps, hcs]
  simp [pfC, ipC, msC, Value.oneCell']
def msZ : List Value := [.int .u8 0, .int .u8 0, .int .u16 0, .int .u8 0, .int .u8 0, .int .u8 0, .int .u8 0, .int .u8 0, .int .u8 0, .int .u8 0, .int .u8 0, .int .u8 0, .int .u8 0, .int .u8 0, .int .u8 0, .int .u8 0, .int .u8 0, .int .u8 0, .int .u8 0, .int .i64 0, .int .u16 0, .int .u64 0, .int .u64 0, .int .u8 0, .int .u8 0, .int .u16 0, .bool false, .slice none 0 0, .slice none 0 0, .int .u32 0, .int .u16 0, .int .u8 0, .int .u8 0, .int .u8 0, .int .u8 0, .int .u8 0, .int .u8 0, .int .u8 0, .int .u8 0, .int .u8 0, .int .u8 0, .int .u8 0, .int .u8 0, .int .u8 0, .int .u8 0, .int .u8 0, .int .u8 0, .bool false]
instance : TZero Try.prog 78 msZ := ⟨by kernel_rfl⟩
theorem bo_build {rt : List Int} (h : IsIP rt) (bv bl : Int) : putAll [(0, 1), (1, 1), (2, 16)] [.int .u32 0, .int .u16 0, .int .u8 0, .int .u8 0, .int .u8 0, .int .u8 0, .int .u8 0, .int .u8 0, .int .u8 0, .int .u8 0, .int .u8 0, .int .u8 0, .int .u8 0, .int .u8 0, .int .u8 0, .int .u8 0, .int .u8 0, .int .u8 0] [(0, [.int .u32 bv]), (1, [.int .u16 bl]), (2, ipC rt)] = some ([.int .u32 bv, .int .u16 bl] ++ ipC rt) := by
  obtain ⟨x0, x1, x2, x3, x4, x5, x6, x7, x8, x9, x10, x11, x12, x13, x14, x15, e0⟩ := len16 h.len
  subst e0
  rfl
/-- a message of an offer alone -/
def msN (ty bv bl : Int) (rt : List Int) (hb : Bool) : Msg := ⟨ty, 0, 0, z16, 0, 0, 0, 0, 0, 0, 0, false, bv, bl, rt, hb⟩
theorem ms_buildN {rt : List Int} (h : IsIP rt) (ty bv bl : Int) (hb : Bool) (u v : Value) : putAll [(0, 1), (1, 1), (2, 1), (3, 16), (19, 3), (22, 4), (26, 1), (27, 1), (28, 1), (29, 18), (47, 1)] msZ [(0, [.int .u8 ty]), (7, [u]), (8, [v]), (9, [.int .u32 bv, .int .u16 bl] ++ ipC rt), (10, [.bool hb])] = some (msC (msN ty bv bl rt hb) u v) := by
  obtain ⟨x0, x1, x2, x3, x4, x5, x6, x7, x8, x9, x10, x11, x12, x13, x14, x15, e0⟩ := len16 h.len
  subst e0
  rfl
theorem msN_is {rt : List Int} (h : IsIP rt) (ty bv bl : Int) (hb : Bool) : IsMs (msN ty bv bl rt hb) := ⟨isIP_dec z16 (by decide), h⟩
/-- a message and the values of its lists -/
structure MV where
  m : Msg
  ps : List PInf
  cs : List CInf
  u : Value
  v : Value
def mvC (x : MV) : List Value := msC x.m x.u x.v
def MsAt (W : World) (x : MV) : Prop := SlAt W 20 x.u x.ps.length (pisC x.ps) ∧ SlAt W 20 x.v x.cs.length (cisC x.cs)
theorem MsAt.later {W w : World} {x : MV} (h : MsAt W x) (E : Ext [] W w) : MsAt w x := ⟨h.1.later E, h.2.later E⟩
structure IsMv (x : MV) : Prop where
  ms : IsMs x.m
  bv : 0 ≤ x.m.bv ∧ x.m.bv ≤ 4294967295
  bl : 0 ≤ x.m.bl ∧ x.m.bl ≤ 65535
  ps : ∀ p ∈ x.ps, IsPi p
  cs : ∀ c ∈ x.cs, IsCi c
theorem mv_len {x : MV} (h : IsMv x) : (mvC x).length = 48 := ms_len h.ms _ _
theorem mv_one {W : World} {x : MV} (h : MsAt W x) : (mvC x).all (·.oneCell') = true := ms_one _ _ _ h.1.one h.2.one
theorem put3 {a b c : MV} (ha : IsMv a) (hb : IsMv b) (hc : IsMv c) : putAll (placesL 3 48) (zerosL msZ (3 * 48)) [(0, mvC a), (1, mvC b), (2, mvC c)] = some (encL mvC [a, b, c]) := by
  have hz : zerosL msZ (3 * 48) = msZ ++ (msZ ++ msZ) := rfl
  have la := mv_len ha
  have lb := mv_len hb
  have lc := mv_len hc
  have lz : msZ.length = 48 := rfl
  have p1 : put (msZ ++ (msZ ++ msZ)) 0 (mvC a) = some (mvC a ++ (msZ ++ msZ)) := by
    rw [put_of _ _ _ (by simp only [List.length_append]; omega)]
    simp [splice, la, lz]
  have p2 : put (mvC a ++ (msZ ++ msZ)) 48 (mvC b) = some (mvC a ++ (mvC b ++ msZ)) := by
    rw [put_of _ _ _ (by simp only [List.length_append]; omega)]
    simp [splice, la, lb, lz, List.take_append, List.drop_append]
  have p3 : put (mvC a ++ (mvC b ++ msZ)) 96 (mvC c) = some (mvC a ++ (mvC b ++ mvC c)) := by
    rw [put_of _ _ _ (by simp only [List.length_append]; omega)]
    have d1 : List.take 96 (mvC a) = mvC a := List.take_of_length_le (by omega)
    have d2 : List.drop 144 (mvC a) = [] := List.drop_eq_nil_of_le (by omega)
    have d3 : List.drop 96 (mvC b) = [] := List.drop_eq_nil_of_le (by omega)
    have d4 : List.drop 48 msZ = [] := rfl
    simp [splice, la, lb, lc, lz, List.take_append, List.drop_append, d1, d2, d3, d4]
  have hpl : placesL 3 48 = [(0, 48), (48, 48), (96, 48)] := rfl
  have e1 : Nat.beq (mvC a).length 48 = true := by rw [la]; rfl
  have e2 : Nat.beq (mvC b).length 48 = true := by rw [lb]; rfl
  have e3 : Nat.beq (mvC c).length 48 = true := by rw [lc]; rfl
  rw [hz, hpl]
  simp only [putAll, nthP, e1, e2, e3, p1, p2, p3]
  simp [encL]
end Go.Proofs.Ytainnefmobfcjaa
/-! NOpen4 -/
namespace Go.Proofs.Ytainnefmobfcjaa
set_option linter.unusedVariables false
set_option linter.unusedSimpArgs false
open Go.ChangeShapes Go.WideShapes Go.ChangeAt Go.RowKit
theorem drop_step (cs : List Value) (k n : Nat) : cs.drop k = (cs.drop k).take n ++ cs.drop (k + n) := by
  have := List.take_append_drop n (cs.drop k)
  rw [List.drop_drop] at this
  exact this.symm
section
variable {H : Type} {enc : TypeId × Value → H} {w : World} {base : Nat} {sp : Nat → Bool} {held : Bool}
set_option maxRecDepth 100000 in
theorem dec_addr {n : Nat} {cs : List Value} {y : DataW H × List MemPlace} (h : DataW.trod enc Try.prog w base sp held n 71 cs = some y) : ∃ a b c : Int, cs = [.int .i64 a, .int .u16 b, .int .u64 c] := by
  have hw := open_leaf 8 71 [.i .i64, .i .u16, .i .u64] (by kernel_rfl) n cs y h (.inl (by kernel_rfl))
  obtain ⟨x1, c1, rfl, g1, hw⟩ := wfK_cons hw
  obtain ⟨x2, c2, rfl, g2, hw⟩ := wfK_cons hw
  obtain ⟨x3, c3, rfl, g3, hw⟩ := wfK_cons hw
  obtain rfl := wfK_nil hw
  obtain ⟨n1, rfl, _, _⟩ := wfV_int g1
  obtain ⟨n2, rfl, _, _⟩ := wfV_int g2
  obtain ⟨n3, rfl, _, _⟩ := wfV_int g3
  exact ⟨n1, n2, n3, rfl⟩
set_option maxRecDepth 100000 in
theorem dec_owner {n : Nat} {cs : List Value} {y : DataW H × List MemPlace} (h : DataW.trod enc Try.prog w base sp held n 73 cs = some y) : ∃ a b c d : Int, cs = [.int .u64 a, .int .u8 b, .int .u8 c, .int .u16 d] := by
  have hw := open_leaf 8 73 [.i .u64, .i .u8, .i .u8, .i .u16] (by kernel_rfl) n cs y h (.inl (by kernel_rfl))
  obtain ⟨x1, c1, rfl, g1, hw⟩ := wfK_cons hw
  obtain ⟨x2, c2, rfl, g2, hw⟩ := wfK_cons hw
  obtain ⟨x3, c3, rfl, g3, hw⟩ := wfK_cons hw
  obtain ⟨x4, c4, rfl, g4, hw⟩ := wfK_cons hw
  obtain rfl := wfK_nil hw
  obtain ⟨n1, rfl, _, _⟩ := wfV_int g1
  obtain ⟨n2, rfl, _, _⟩ := wfV_int g2
  obtain ⟨n3, rfl, _, _⟩ := wfV_int g3
  obtain ⟨n4, rfl, _, _⟩ := wfV_int g4
  exact ⟨n1, n2, n3, n4, rfl⟩
set_option maxRecDepth 100000 in
theorem dec_border {n : Nat} {cs : List Value} {y : DataW H × List MemPlace} (h : DataW.trod enc Try.prog w base sp held n 76 cs = some y) : ∃ (a b : Int) (rt : List Int), (0 ≤ a ∧ a ≤ 4294967295) ∧ (0 ≤ b ∧ b ≤ 65535) ∧ IsIP rt ∧ cs = [.int .u32 a, .int .u16 b] ++ ipC rt := by
  have hw := open_leaf 8 76 (.i .u32 :: .i .u16 :: List.replicate 16 (.i .u8)) (by kernel_rfl) n cs y h (.inl (by kernel_rfl))
  obtain ⟨x1, c1, rfl, g1, hw⟩ := wfK_cons hw
  obtain ⟨x2, c2, rfl, g2, hw⟩ := wfK_cons hw
  obtain ⟨a, rfl, hl, hb⟩ := ip_wf c2 16 hw
  obtain ⟨n1, rfl, h1, h2⟩ := wfV_int g1
  obtain ⟨n2, rfl, h3, h4⟩ := wfV_int g2
  exact ⟨n1, n2, a, ⟨h1, h2⟩, ⟨h3, h4⟩, ⟨hl, hb⟩, rfl⟩
set_option maxRecDepth 100000 in
theorem dec_msg {n : Nat} {cs : List Value} {y : DataW H × List MemPlace} (h : DataW.trod enc Try.prog w base sp held n 78 cs = some y) : ∃ x : MV, IsMv x ∧ MsAt w x ∧ cs = mvC x := by
  obtain ⟨xs, m, rfl, _, hl, hn, hat⟩ := DataW.trod_struct Try.underlying78 h
  have hc : Try.prog.cellsOf 78 = 48 := by kernel_rfl
  rw [hc] at hl
  have hxl : xs.length = 11 := hn
  have zapiContextInfo : Try.prog.cellsOf 56 = 1 := by kernel_rfl
  have zapiPrefixInfo : Try.prog.cellsOf 55 = 1 := by kernel_rfl
  have zbool : Try.prog.cellsOf 4 = 1 := by kernel_rfl
  have zmultihopapiAddr : Try.prog.cellsOf 71 = 3 := by kernel_rfl
  have zmultihopapiBorder : Try.prog.cellsOf 76 = 18 := by kernel_rfl
  have zmultihopapiIP : Try.prog.cellsOf 26 = 16 := by kernel_rfl
  have zmultihopapiOwner : Try.prog.cellsOf 73 = 4 := by kernel_rfl
  have zuint16 : Try.prog.cellsOf 68 = 1 := by kernel_rfl
  have zuint8 : Try.prog.cellsOf 5 = 1 := by kernel_rfl
  have a0 : DataW.trod enc Try.prog w base sp held m 5 ((cs.drop 0).take (Try.prog.cellsOf 5)) = xs[0]? := hat 0 _ rfl
  rw [List.getElem?_eq_getElem (by omega), zuint8] at a0
  have a1 : DataW.trod enc Try.prog w base sp held m 5 ((cs.drop 1).take (Try.prog.cellsOf 5)) = xs[1]? := hat 1 _ rfl
  rw [List.getElem?_eq_getElem (by omega), zuint8] at a1
  have a2 : DataW.trod enc Try.prog w base sp held m 68 ((cs.drop 2).take (Try.prog.cellsOf 68)) = xs[2]? := hat 2 _ rfl
  rw [List.getElem?_eq_getElem (by omega), zuint16] at a2
  have a3 : DataW.trod enc Try.prog w base sp held m 26 ((cs.drop 3).take (Try.prog.cellsOf 26)) = xs[3]? := hat 3 _ rfl
  rw [List.getElem?_eq_getElem (by omega), zmultihopapiIP] at a3
  have a4 : DataW.trod enc Try.prog w base sp held m 71 ((cs.drop 19).take (Try.prog.cellsOf 71)) = xs[4]? := hat 4 _ rfl
  rw [List.getElem?_eq_getElem (by omega), zmultihopapiAddr] at a4
  have a5 : DataW.trod enc Try.prog w base sp held m 73 ((cs.drop 22).take (Try.prog.cellsOf 73)) = xs[5]? := hat 5 _ rfl
  rw [List.getElem?_eq_getElem (by omega), zmultihopapiOwner] at a5
  have a6 : DataW.trod enc Try.prog w base sp held m 4 ((cs.drop 26).take (Try.prog.cellsOf 4)) = xs[6]? := hat 6 _ rfl
  rw [List.getElem?_eq_getElem (by omega), zbool] at a6
  have a7 : DataW.trod enc Try.prog w base sp held m 55 ((cs.drop 27).take (Try.prog.cellsOf 55)) = xs[7]? := hat 7 _ rfl
  rw [List.getElem?_eq_getElem (by omega), zapiPrefixInfo] at a7
  have a8 : DataW.trod enc Try.prog w base sp held m 56 ((cs.drop 28).take (Try.prog.cellsOf 56)) = xs[8]? := hat 8 _ rfl
  rw [List.getElem?_eq_getElem (by omega), zapiContextInfo] at a8
  have a9 : DataW.trod enc Try.prog w base sp held m 76 ((cs.drop 29).take (Try.prog.cellsOf 76)) = xs[9]? := hat 9 _ rfl
  rw [List.getElem?_eq_getElem (by omega), zmultihopapiBorder] at a9
  have a10 : DataW.trod enc Try.prog w base sp held m 4 ((cs.drop 47).take (Try.prog.cellsOf 4)) = xs[10]? := hat 10 _ rfl
  rw [List.getElem?_eq_getElem (by omega), zbool] at a10
  obtain ⟨n0, e0, _, _⟩ := DataW.trod_int Try.underlying5 a0
  obtain ⟨n1, e1, _, _⟩ := DataW.trod_int Try.underlying5 a1
  obtain ⟨n2, e2, _, _⟩ := DataW.trod_int Try.underlying68 a2
  obtain ⟨n3, p3, e3⟩ := dec_ip a3
  obtain ⟨n4a, n4b, n4c, e4⟩ := dec_addr a4
  obtain ⟨n5a, n5b, n5c, n5d, e5⟩ := dec_owner a5
  obtain ⟨n6, e6, _⟩ := DataW.trod_bool Try.underlying4 a6
  obtain ⟨u, ps, e7, hps, hSp, _⟩ := open_slG (sz := 20) Try.underlying55 (by kernel_rfl) (by omega) dec_pi a7
  obtain ⟨v, qs, e8, hqs, hSq, _⟩ := open_slG (sz := 20) Try.underlying56 (by kernel_rfl) (by omega) dec_ci a8
  obtain ⟨n9a, n9b, n9c, p9a, p9b, p9c, e9⟩ := dec_border a9
  obtain ⟨n10, e10, _⟩ := DataW.trod_bool Try.underlying4 a10
  refine ⟨⟨⟨n0, n1, n2, n3, n4a, n4b, n4c, n5a, n5b, n5c, n5d, n6, n9a, n9b, n9c, n10⟩, ps, qs, u, v⟩, ⟨⟨p3, p9c⟩, p9a, p9b, hps, hqs⟩, ⟨hSp, hSq⟩, ?_⟩
  have t48 : cs.drop 48 = [] := List.drop_eq_nil_of_le (by omega)
  have s0 := drop_step cs 0 1
  have s1 := drop_step cs 1 1
  have s2 := drop_step cs 2 1
  have s3 := drop_step cs 3 16
  have s4 := drop_step cs 19 3
  have s5 := drop_step cs 22 4
  have s6 := drop_step cs 26 1
  have s7 := drop_step cs 27 1
  have s8 := drop_step cs 28 1
  have s9 := drop_step cs 29 18
  have s10 := drop_step cs 47 1
  rw [List.drop_zero] at s0
  rw [List.drop_zero] at e0
  rw [e0] at s0
  rw [e1] at s1
  rw [e2] at s2
  rw [e3] at s3
  rw [e4] at s4
  rw [e5] at s5
  rw [e6] at s6
  rw [e7] at s7
  rw [e8] at s8
  rw [e9] at s9
  rw [e10] at s10
  rw [t48, List.append_nil] at s10
  rw [s0, s1, s2, s3, s4, s5, s6, s7, s8, s9, s10]
  simp [mvC, msC]
end
set_option maxRecDepth 100000 in
theorem open_msg {H : Type} {enc : TypeId × Value → H} {w : World} {r : Reach} {b0 base : Nat} {sp : Nat → Bool} {held : Bool} {v : Value} {d : DataW H} {p : List MemPlace} (hval : Value.okWide Try.prog w r b0 78 v) (h : DataW.Trod enc Try.prog w base sp held 78 v d p) : ∃ x : MV, IsMv x ∧ MsAt w x ∧ v = .agg (mvC x).toArray := by
  obtain ⟨cs, rfl⟩ := agg_of (by kernel_rfl) hval
  obtain ⟨fuel, hf⟩ := h
  obtain ⟨x, h1, h2, h3⟩ := dec_msg hf
  exact ⟨x, h1, h2, by rw [← h3]; simp [Value.cells]⟩
end Go.Proofs.Ytainnefmobfcjaa
/-! J1 -/
namespace Go.Proofs.Ytainnefmobfcjaa
set_option linter.unusedVariables false
set_option linter.unusedSimpArgs false
open Go.RowKit
attribute [local irreducible] OpTo wpListIn Code.wpIn MW Cal
def wdV (v s : Int) : Int := if s = 0 then v else if s = 1 then IntKind.u64.wrap (IntKind.u64.wrap (v * 2 ^ min 48 IntKind.u64.bits) + v) else if s = 2 then 9223372036854775808 + v else if s = 3 then 18446744073709551615 - v.tmod 4 else v.tmod 4
set_option maxHeartbeats 1000000 in
theorem wordD_c {bt : Nat} {p : Option Addr} {len cap k : Nat} {xs : List Int} (W : World) (hT : TapeS W bt p len xs) (hb : W.heap[bt]? = some (tobj p len cap k)) :
    Cal Try.prog 30 [.pointer (some ⟨bt, 0, none⟩)].toArray W fun v w' => v = .int .u64 (wdV (nxV xs k 65536) (nxV xs (nxK xs k) 5)) ∧ Mem [bt] W w' [(bt, tobj p len cap (nxK xs (nxK xs k)))] := by
  have v1 := nxV_bd xs k (n := 65536) (by omega)
  have v2 := nxV_bd xs (nxK xs k) (n := 5) (by omega)
  have hr := Int.tmod_lt_of_pos (nxV xs k 65536) (show (0 : Int) < 4 by omega)
  have hr0 := Int.tmod_nonneg 4 v1.1
  have hcase : nxV xs (nxK xs k) 5 = 0 ∨ nxV xs (nxK xs k) 5 = 1 ∨ nxV xs (nxK xs k) 5 = 2 ∨ nxV xs (nxK xs k) 5 = 3 ∨ nxV xs (nxK xs k) 5 = 4 := by omega
  refine fn_ofM (n := 29) [bt] Try.func30 rfl rfl rfl ?_
  intro a w F M hwW
  replace M := M.came hwW hb (by simp) (by simp)
  with_reducible refine c_seq ?_
  with_reducible refine c_region ?_
  refine stepD rfl F rfl (o_assign (F.ev rfl) ?_); clear F; clear a; intro a F
  with_reducible refine l_nil ?_
  with_reducible refine q_then ?_
  with_reducible refine c_seq ?_
  with_reducible refine c_region ?_
  refine stepD rfl F rfl (o_move (F.ev rfl) ?_); clear F; clear a; intro a F
  (refine stepD rfl F rfl (o_call (F.ev rfl) (F.evs rfl) (Cal.mono (next_c 65536 (by omega) (by omega) _ (hT.later M.ext) (M.heap .here) ) ?_)); clear F; clear a; have M0 := M; clear M; rintro _ w ⟨rfl, N⟩ a F)
  replace M := M0.turn1 N .here
  refine stepD rfl F rfl (o_conv (F.ev rfl) (w_u64 (by omega) (by omega)) ?_); clear F; clear a; intro a F
  refine stepD rfl F rfl (o_assign (F.ev rfl) ?_); clear F; clear a; intro a F
  with_reducible refine l_nil ?_
  with_reducible refine q_then ?_
  with_reducible refine c_seq ?_
  with_reducible refine c_seq ?_
  with_reducible refine c_region ?_
  refine stepD rfl F rfl (o_move (F.ev rfl) ?_); clear F; clear a; intro a F
  (refine stepD rfl F rfl (o_call (F.ev rfl) (F.evs rfl) (Cal.mono (next_c 5 (by omega) (by omega) _ (hT.later M.ext) (M.heap .here) ) ?_)); clear F; clear a; have M0 := M; clear M; rintro _ w ⟨rfl, N⟩ a F)
  replace M := M0.turn1 N .here
  generalize nxV xs k 65536 = v at *
  rcases hcase with hc | hc | hc | hc | hc
  all_goals
    rw [hc] at F ⊢
    clear hc v2
    repeat (first | (with_reducible refine c_seq ?_) | (with_reducible refine c_region ?_) | (with_reducible refine l_nil ?_) | (with_reducible refine q_then ?_) | (with_reducible refine c_block ?_) | (with_reducible refine c_skip ?_) | (with_reducible refine q_inB ?_) | (with_reducible refine c_ret ?_) | (with_reducible refine q_thenR ?_) | (with_reducible refine q_inBR ?_) | (refine c_true F rfl rfl ?_) | (refine c_false F rfl rfl ?_) | (refine stepD rfl F rfl (o_move (F.ev rfl) ?_); clear F; clear a; intro a F) | (refine stepD rfl F rfl (o_assign (F.ev rfl) ?_); clear F; clear a; intro a F) | (refine stepD rfl F rfl (o_eqlT (F.ev rfl) (F.ev rfl) (by omega) ?_); clear F; clear a; intro a F) | (refine stepD rfl F rfl (o_eqlF (F.ev rfl) (F.ev rfl) (by omega) ?_); clear F; clear a; intro a F) | (refine stepD rfl F rfl (o_add (F.ev rfl) (F.ev rfl) (w_u64 (by omega) (by omega)) ?_); clear F; clear a; intro a F) | (refine stepD rfl F rfl (o_add (F.ev rfl) (F.ev rfl) rfl ?_); clear F; clear a; intro a F) | (refine stepD rfl F rfl (o_sub (F.ev rfl) (F.ev rfl) (w_u64 (by omega) (by omega)) ?_); clear F; clear a; intro a F) | (refine stepD rfl F rfl (o_shl (F.ev rfl) (F.ev rfl) (by omega) rfl ?_); clear F; clear a; intro a F) | (refine stepD rfl F rfl (o_rem (F.ev rfl) (F.ev rfl) (by omega) rfl ?_); clear F; clear a; intro a F))
    refine p_ret F rfl (.cons (.tmp (F.ev rfl)) .nil) ?_
    refine ⟨?_, M⟩
    simp [wdV, oneOr]
def offZ : Off := ⟨⟨z16, 0, 0⟩, [], []⟩
theorem offZ_is : IsOff offZ := ⟨isIP_dec z16 (by decide), by simp [offZ], by simp [offZ]⟩
def offerO (x : MV) (now : Int) : Off := ⟨⟨x.m.br, x.m.bv, laterV now x.m.bl⟩, x.ps, x.cs⟩
def offerV (now : Int) (x : MV) : Off × Int := if isTime now then if x.m.ty = 134 ∧ x.m.hb = true then (if validO (offerO x now) then (offerO x now, 0) else (offZ, 1)) else (offZ, 5) else (offZ, 2)
theorem offerO_is {x : MV} (h : IsMv x) (now : Int) : IsOff (offerO x now) := ⟨h.ms.2, h.ps, h.cs⟩
/-- an offer as a result, with an error number -/
def OffR (now : Int) (x : MV) (W : World) (r : Value) (w' : World) : Prop := ∃ u v, r = .tuple #[.agg (ovC ⟨(offerV now x).1, u, v⟩).toArray, .int .i64 (offerV now x).2] ∧ OffAt w' ⟨(offerV now x).1, u, v⟩ ∧ Ext [] W w'
theorem offZ_at (W : World) : OffAt W ⟨offZ, .slice none 0 0, .slice none 0 0⟩ := ⟨SlAt.nil _ _, SlAt.nil _ _⟩
theorem isTime_bd {t : Int} (h : isTime t = true) : 0 ≤ t ∧ t ≤ 1099511627776 := by simpa [isTime] using h
set_option maxHeartbeats 4000000 in
theorem offM_c (x : MV) (hx : IsMv x) (now : Int) (W : World) (hA : MsAt W x) :
    Cal Try.prog 31 [.int .i64 now, .agg (mvC x).toArray].toArray W fun r w' => OffR now x W r w' := by
  have hlen := mv_len hx
  obtain ⟨hm, hbv, hbl, hps, hcs⟩ := hx
  have f1 := ms_ty hm x.u x.v
  have f2 := ms_hb hm x.u x.v
  have f3 := ms_br hm x.u x.v
  have f4 := ms_bv hm x.u x.v
  have f5 := ms_bl hm x.u x.v
  obtain ⟨q1, cap1, hu1, _⟩ := hA.1
  obtain ⟨q2, cap2, hu2, _⟩ := hA.2
  have f6 := (ms_ps hm x.u x.v).trans (congrArg some hu1)
  have f7 := (ms_cs hm x.u x.v).trans (congrArg some hu2)
  have ho : IsOff (offerO x now) := ⟨hm.2, hps, hcs⟩
  change Cal _ _ [_, .agg (msC x.m x.u x.v).toArray].toArray _ _
  unfold OffR
  refine fn_ofM (n := 44) [] Try.func31 rfl rfl rfl ?_
  intro a w F M hwW
  refine c_seq ?_
  refine c_region ?_
  (refine stepD rfl F rfl (o_box M (F.ev rfl) rfl ?_); clear F; clear M; intro b3 w M a F)
  (refine stepD rfl F rfl (o_alloc M ?_); clear F; clear M; intro b4 w M a F)
  refine stepD rfl F rfl (o_assign (F.ev rfl) ?_); clear F; clear a; intro a F
  with_reducible refine l_nil ?_
  with_reducible refine q_then ?_
  with_reducible refine c_seq ?_
  with_reducible refine c_seq ?_
  with_reducible refine c_region ?_
  refine stepD rfl F rfl (o_move (F.ev rfl) ?_); clear F; clear a; intro a F
  (refine stepD rfl F rfl (o_call (F.ev rfl) (F.evs rfl) (Cal.mono (isTime_c now _) ?_)); clear F; clear a; rintro _ w ⟨rfl, hE⟩ a F; replace M := M.later hE; clear hE)
  cases htm : isTime now
  · have hv : offerV now x = (offZ, 2) := by unfold offerV; rw [htm]; rfl
    rw [hv]
    rw [htm] at F
    refine stepD rfl F rfl (o_not (F.ev rfl) ?_); clear F; clear a; intro a F
    with_reducible refine l_nil ?_
    with_reducible refine q_then ?_
    refine c_true F rfl rfl ?_
    with_reducible refine c_seq ?_
    with_reducible refine c_region ?_
    refine stepD rfl F rfl (o_build F rfl rfl ?_); clear F; clear a; intro a F
    (refine stepN rfl F (o_storeA M (F.ev rfl) (F.ev rfl) (by rfl) (by rfl) (by repeat (first | exact .here | apply Has.there)) (by rfl) (by repeat (first | exact .here | apply Upd.there)) ?_); clear F; clear M; intro w M a F)
    refine stepD rfl F rfl (o_assign (F.ev rfl) ?_); clear F; clear a; intro a F
    with_reducible refine l_nil ?_
    with_reducible refine q_then ?_
    with_reducible refine c_ret ?_
    with_reducible refine q_thenR ?_
    exact p_ret F rfl (.cons (.cell (F.ev rfl) (run_loadVar_agg TAgg.h (M.heap .here) (show _ = some (ovC ⟨offZ, .slice none 0 0, .slice none 0 0⟩) from rfl))) (.cons (.tmp (F.ev rfl)) .nil)) ⟨_, _, rfl, offZ_at _, M.ext⟩
  rw [htm] at F
  have htb := isTime_bd htm
  by_cases c1 : ¬ x.m.ty = 134
  · have hv : offerV now x = (offZ, 5) := by unfold offerV; rw [htm, if_pos rfl, if_neg (fun h => c1 h.1)]
    rw [hv]
    refine stepD rfl F rfl (o_not (F.ev rfl) ?_); clear F; clear a; intro a F
    with_reducible refine l_nil ?_
    with_reducible refine q_then ?_
    refine c_false F rfl rfl ?_
    with_reducible refine c_skip ?_
    with_reducible refine q_then ?_
    with_reducible refine c_seq ?_
    with_reducible refine c_seq ?_
    with_reducible refine c_region ?_
    refine stepD rfl F rfl (o_fieldAddr (F.ev rfl) ?_); clear F; clear a; intro a F
    refine stepD rfl F rfl (o_load1 M (F.ev rfl) (by repeat (first | exact .here | apply Has.there)) (by first | assumption | rfl) ?_); clear F; clear a; intro a F
    refine stepD rfl F rfl (o_neqT (F.ev rfl) (F.ev rfl) (by omega) ?_); clear F; clear a; intro a F
    refine stepD rfl F rfl (o_move (F.ev rfl) ?_); clear F; clear a; intro a F
    refine stepOff F rfl rfl rfl rfl ?_; clear F; clear a; intro a F
    refine stepOff F rfl rfl rfl rfl ?_; clear F; clear a; intro a F
    refine stepOff F rfl rfl rfl rfl ?_; clear F; clear a; intro a F
    refine stepD rfl F rfl (o_pickT (F.ev rfl) (F.ev rfl) ?_); clear F; clear a; intro a F
    with_reducible refine l_nil ?_
    with_reducible refine q_then ?_
    refine c_true F rfl rfl ?_
    with_reducible refine c_seq ?_
    with_reducible refine c_region ?_
    refine stepD rfl F rfl (o_build F rfl rfl ?_); clear F; clear a; intro a F
    (refine stepN rfl F (o_storeA M (F.ev rfl) (F.ev rfl) (by rfl) (by rfl) (by repeat (first | exact .here | apply Has.there)) (by rfl) (by repeat (first | exact .here | apply Upd.there)) ?_); clear F; clear M; intro w M a F)
    refine stepD rfl F rfl (o_assign (F.ev rfl) ?_); clear F; clear a; intro a F
    with_reducible refine l_nil ?_
    with_reducible refine q_then ?_
    with_reducible refine c_ret ?_
    with_reducible refine q_thenR ?_
    exact p_ret F rfl (.cons (.cell (F.ev rfl) (run_loadVar_agg TAgg.h (M.heap .here) (show _ = some (ovC ⟨offZ, .slice none 0 0, .slice none 0 0⟩) from rfl))) (.cons (.tmp (F.ev rfl)) .nil)) ⟨_, _, rfl, offZ_at _, M.ext⟩
  replace c1 := Decidable.not_not.1 c1
  cases c2 : x.m.hb
  · have hv : offerV now x = (offZ, 5) := by unfold offerV; rw [htm, if_pos rfl, if_neg (fun h => by rw [c2] at h; cases h.2)]
    rw [hv]
    rw [c2] at f2
    refine stepD rfl F rfl (o_not (F.ev rfl) ?_); clear F; clear a; intro a F
    with_reducible refine l_nil ?_
    with_reducible refine q_then ?_
    refine c_false F rfl rfl ?_
    with_reducible refine c_skip ?_
    with_reducible refine q_then ?_
    with_reducible refine c_seq ?_
    with_reducible refine c_seq ?_
    with_reducible refine c_region ?_
    refine stepD rfl F rfl (o_fieldAddr (F.ev rfl) ?_); clear F; clear a; intro a F
    refine stepD rfl F rfl (o_load1 M (F.ev rfl) (by repeat (first | exact .here | apply Has.there)) (by first | assumption | rfl) ?_); clear F; clear a; intro a F
    refine stepD rfl F rfl (o_neqF (F.ev rfl) (F.ev rfl) (by omega) ?_); clear F; clear a; intro a F
    refine stepD rfl F rfl (o_move (F.ev rfl) ?_); clear F; clear a; intro a F
    refine stepG rfl F rfl rfl rfl (o_fieldAddr (F.ev rfl) ?_); clear F; clear a; intro a F
    refine stepG rfl F rfl rfl rfl (o_load1 M (F.ev rfl) (by repeat (first | exact .here | apply Has.there)) (by first | assumption | rfl) ?_); clear F; clear a; intro a F
    refine stepG rfl F rfl rfl rfl (o_not (F.ev rfl) ?_); clear F; clear a; intro a F
    refine stepD rfl F rfl (o_pickF (F.ev rfl) (F.ev rfl) ?_); clear F; clear a; intro a F
    with_reducible refine l_nil ?_
    with_reducible refine q_then ?_
    refine c_true F rfl rfl ?_
    with_reducible refine c_seq ?_
    with_reducible refine c_region ?_
    refine stepD rfl F rfl (o_build F rfl rfl ?_); clear F; clear a; intro a F
    (refine stepN rfl F (o_storeA M (F.ev rfl) (F.ev rfl) (by rfl) (by rfl) (by repeat (first | exact .here | apply Has.there)) (by rfl) (by repeat (first | exact .here | apply Upd.there)) ?_); clear F; clear M; intro w M a F)
    refine stepD rfl F rfl (o_assign (F.ev rfl) ?_); clear F; clear a; intro a F
    with_reducible refine l_nil ?_
    with_reducible refine q_then ?_
    with_reducible refine c_ret ?_
    with_reducible refine q_thenR ?_
    exact p_ret F rfl (.cons (.cell (F.ev rfl) (run_loadVar_agg TAgg.h (M.heap .here) (show _ = some (ovC ⟨offZ, .slice none 0 0, .slice none 0 0⟩) from rfl))) (.cons (.tmp (F.ev rfl)) .nil)) ⟨_, _, rfl, offZ_at _, M.ext⟩
  rw [c2] at f2
  have hv0 : offerV now x = (if validO (offerO x now) then (offerO x now, 0) else (offZ, 1)) := by unfold offerV; rw [htm, if_pos rfl, if_pos ⟨c1, c2⟩]
  have hbd : putAll [(0, 16), (16, 1), (17, 1), (18, 1), (19, 1)] ofZ [(0, ipC x.m.br), (1, [.int .i64 x.m.bv]), (2, [.int .i64 (laterV now x.m.bl)]), (3, [.slice q1 x.ps.length cap1]), (4, [.slice q2 x.cs.length cap2])] = some (ofC (offerO x now).h x.u x.v) := by
    rw [← hu1, ← hu2]
    exact of_build (o := (offerO x now).h) hm.2 x.u x.v
  refine stepD rfl F rfl (o_not (F.ev rfl) ?_); clear F; clear a; intro a F
  with_reducible refine l_nil ?_
  with_reducible refine q_then ?_
  refine c_false F rfl rfl ?_
  with_reducible refine c_skip ?_
  with_reducible refine q_then ?_
  with_reducible refine c_seq ?_
  with_reducible refine c_seq ?_
  with_reducible refine c_region ?_
  refine stepD rfl F rfl (o_fieldAddr (F.ev rfl) ?_); clear F; clear a; intro a F
  refine stepD rfl F rfl (o_load1 M (F.ev rfl) (by repeat (first | exact .here | apply Has.there)) (by first | assumption | rfl) ?_); clear F; clear a; intro a F
  refine stepD rfl F rfl (o_neqF (F.ev rfl) (F.ev rfl) (by omega) ?_); clear F; clear a; intro a F
  refine stepD rfl F rfl (o_move (F.ev rfl) ?_); clear F; clear a; intro a F
  refine stepG rfl F rfl rfl rfl (o_fieldAddr (F.ev rfl) ?_); clear F; clear a; intro a F
  refine stepG rfl F rfl rfl rfl (o_load1 M (F.ev rfl) (by repeat (first | exact .here | apply Has.there)) (by first | assumption | rfl) ?_); clear F; clear a; intro a F
  refine stepG rfl F rfl rfl rfl (o_not (F.ev rfl) ?_); clear F; clear a; intro a F
  refine stepD rfl F rfl (o_pickF (F.ev rfl) (F.ev rfl) ?_); clear F; clear a; intro a F
  with_reducible refine l_nil ?_
  with_reducible refine q_then ?_
  refine c_false F rfl rfl ?_
  with_reducible refine c_skip ?_
  with_reducible refine q_then ?_
  with_reducible refine c_seq ?_
  refine c_draw 19 F (by kernel_rfl) ?_
  intro w1 hE hok
  have M1 := M.later hE
  refine mK hok rfl rfl (fun a' w' F' E' => o_fieldAddr (F'.ev rfl) ⟨Ext.refl _ _, rfl⟩) ?_
  refine mK hok rfl rfl (fun a' w' F' E' => o_fieldAddr (F'.ev rfl) ⟨Ext.refl _ _, rfl⟩) ?_
  refine mK hok rfl rfl (fun a' w' F' E' => o_loadA (M1.later E') (F'.ev rfl) (by repeat (first | exact .here | apply Has.there)) (by first | assumption | rfl) ⟨Ext.refl _ _, rfl⟩) ?_
  refine mK hok rfl rfl (fun a' w' F' E' => o_fieldAddr (F'.ev rfl) ⟨Ext.refl _ _, rfl⟩) ?_
  refine mK hok rfl rfl (fun a' w' F' E' => o_fieldAddr (F'.ev rfl) ⟨Ext.refl _ _, rfl⟩) ?_
  refine mK hok rfl rfl (fun a' w' F' E' => o_load1 (M1.later E') (F'.ev rfl) (by repeat (first | exact .here | apply Has.there)) (by first | assumption | rfl) ⟨Ext.refl _ _, rfl⟩) ?_
  refine mK hok rfl rfl (fun a' w' F' E' => o_conv (F'.ev rfl) (w_i64 (by omega) (by omega)) ⟨Ext.refl _ _, rfl⟩) ?_
  refine mK hok rfl rfl (fun a' w' F' E' => o_move (F'.ev rfl) ⟨Ext.refl _ _, rfl⟩) ?_
  refine mK hok rfl rfl (fun a' w' F' E' => o_fieldAddr (F'.ev rfl) ⟨Ext.refl _ _, rfl⟩) ?_
  refine mK hok rfl rfl (fun a' w' F' E' => o_fieldAddr (F'.ev rfl) ⟨Ext.refl _ _, rfl⟩) ?_
  refine mK hok rfl rfl (fun a' w' F' E' => o_load1 (M1.later E') (F'.ev rfl) (by repeat (first | exact .here | apply Has.there)) (by first | assumption | rfl) ⟨Ext.refl _ _, rfl⟩) ?_
  refine mK hok rfl rfl (fun a' w' F' E' => o_conv (F'.ev rfl) (w_i64 (by omega) (by omega)) ⟨Ext.refl _ _, rfl⟩) ?_
  (refine mK hok rfl rfl (fun a' w' F' E' => o_call (F'.ev rfl) (F'.evs rfl) (Cal.mono (later_c now x.m.bl htb.1 htb.2 hbl.1 (by omega) _) fun _ _ hh => ⟨hh.2, hh.1⟩)) ?_)
  refine mK hok rfl rfl (fun a' w' F' E' => o_fieldAddr (F'.ev rfl) ⟨Ext.refl _ _, rfl⟩) ?_
  refine mK hok rfl rfl (fun a' w' F' E' => o_load1 (M1.later E') (F'.ev rfl) (by repeat (first | exact .here | apply Has.there)) (by first | assumption | rfl) ⟨Ext.refl _ _, rfl⟩) ?_
  refine mK hok rfl rfl (fun a' w' F' E' => o_fieldAddr (F'.ev rfl) ⟨Ext.refl _ _, rfl⟩) ?_
  refine mK hok rfl rfl (fun a' w' F' E' => o_load1 (M1.later E') (F'.ev rfl) (by repeat (first | exact .here | apply Has.there)) (by first | assumption | rfl) ⟨Ext.refl _ _, rfl⟩) ?_
  (refine mK hok rfl rfl (fun a' w' F' E' => o_build F' rfl hbd ⟨Ext.refl _ _, rfl⟩) ?_)
  refine mAl hok rfl rfl (Al.stays _ _) (fun w => Ext.alloc w _) (fun a' w' F' E' => run_al) ?_
  (refine mDone rfl rfl ?_; clear F; clear M; intro a w F hE2 hX hTT hDD hPP; have M := M1.later hE2; (try dsimp only at F); simp only [List.nil_append, List.cons_append] at hX; obtain ⟨b6, e_b6, g_b6, q_b6⟩ := hX 18 _ rfl; replace F := F.know (d := 6) e_b6; replace M := Mem.al (pre := []) M M1 q_b6 g_b6 (by intro p hp; cases hp); clear M1; clear hX; clear hE2; clear hok; clear hE; clear hTT; clear hDD; clear hPP; clear e_b6; clear g_b6; clear q_b6; (try dsimp only [ptrTo] at F); (try simp only [List.cons_append, List.nil_append] at M))
  have l2 := of_len (o := (offerO x now).h) hm.2 x.u x.v
  have l3 := of_all (o := (offerO x now).h) hm.2 x.u x.v
  (refine stepN rfl F (o_storeA M (F.ev rfl) (F.ev rfl) l2 (of_one _ _ _ hA.1.one hA.2.one)  (by repeat (first | exact .here | apply Has.there))  (put_all (by rw [l2]; rfl)) (by repeat (first | exact .here | apply Upd.there)) ?_); clear F; clear M; intro w M a F)
  with_reducible refine l_nil ?_
  with_reducible refine q_then ?_
  with_reducible refine c_seq ?_
  with_reducible refine c_seq ?_
  with_reducible refine c_region ?_
  refine stepD rfl F rfl (o_loadA M (F.ev rfl) (by repeat (first | exact .here | apply Has.there)) (by first | assumption | rfl) ?_); clear F; clear a; intro a F
  (refine stepD rfl F rfl (o_call (F.ev rfl) (F.evs rfl) (Cal.mono (validOffer_c ⟨offerO x now, x.u, x.v⟩ ho _ (hA.later M.ext)) ?_)); clear F; clear a; rintro _ w ⟨rfl, hE⟩ a F; replace M := M.later hE; clear hE)
  cases hv : validO (offerO x now)
  · rw [hv] at F
    have hv1 : offerV now x = (offZ, 1) := by rw [hv0, hv]; rfl
    rw [hv1]
    refine stepD rfl F rfl (o_not (F.ev rfl) ?_); clear F; clear a; intro a F
    with_reducible refine l_nil ?_
    with_reducible refine q_then ?_
    refine c_true F rfl rfl ?_
    with_reducible refine c_seq ?_
    with_reducible refine c_region ?_
    refine stepD rfl F rfl (o_build F rfl rfl ?_); clear F; clear a; intro a F
    (refine stepN rfl F (o_storeA M (F.ev rfl) (F.ev rfl) (by rfl) (by rfl) (by repeat (first | exact .here | apply Has.there)) (by rfl) (by repeat (first | exact .here | apply Upd.there)) ?_); clear F; clear M; intro w M a F)
    refine stepD rfl F rfl (o_assign (F.ev rfl) ?_); clear F; clear a; intro a F
    with_reducible refine l_nil ?_
    with_reducible refine q_then ?_
    with_reducible refine c_ret ?_
    with_reducible refine q_thenR ?_
    exact p_ret F rfl (.cons (.cell (F.ev rfl) (run_loadVar_agg TAgg.h (M.heap (.there .here)) (show _ = some (ovC ⟨offZ, .slice none 0 0, .slice none 0 0⟩) from rfl))) (.cons (.tmp (F.ev rfl)) .nil)) ⟨_, _, rfl, offZ_at _, M.ext⟩
  · rw [hv] at F
    have hv1 : offerV now x = (offerO x now, 0) := by rw [hv0, hv]; rfl
    rw [hv1]
    have hle := validO_len hv
    refine stepD rfl F rfl (o_not (F.ev rfl) ?_); clear F; clear a; intro a F
    with_reducible refine l_nil ?_
    with_reducible refine q_then ?_
    refine c_false F rfl rfl ?_
    with_reducible refine c_skip ?_
    with_reducible refine q_then ?_
    with_reducible refine c_seq ?_
    with_reducible refine c_region ?_
    refine stepD rfl F rfl (o_loadA M (F.ev rfl) (by repeat (first | exact .here | apply Has.there)) (by first | assumption | rfl) ?_); clear F; clear a; intro a F
    (refine stepD rfl F rfl (o_call (F.ev rfl) (F.evs rfl) (Cal.mono (copy_c ⟨offerO x now, x.u, x.v⟩ ho (by have := hle.1; show x.ps.length ≤ _; have h : (offerO x now).ps.length = x.ps.length := rfl; omega) (by have := hle.2; show x.cs.length ≤ _; have h : (offerO x now).cs.length = x.cs.length := rfl; omega) _ (hA.later M.ext) ) ?_)); clear F; clear a; rintro _ w ⟨u2, v2, eu, ev, rfl, hu, hw, N⟩ a F; replace M := M.joins N; clear N)
    have l4 := of_len (o := (offerO x now).h) hm.2 u2 v2
    replace M := M.perm (l' := (b4, .cells ofZ.toArray 58 (0, 0)) :: (b6, .cells (ofC (offerO x now).h x.u x.v).toArray 58 (0, 0)) :: (b3, .cells (msC x.m x.u x.v).toArray 78 (0, 0)) :: (eu ++ ev)) (by classical exact List.perm_iff_count.2 fun _ => by simp only [List.count_append, List.count_cons, List.count_nil, Nat.add_zero, Nat.zero_add] <;> ac_rfl)
    change Frm a 44 _ ((_, Value.agg (ofC (offerO x now).h u2 v2).toArray) :: _) at F
    (refine stepN rfl F (o_storeA M (F.ev rfl) (F.ev rfl) l4 (of_one _ _ _ hu.one hw.one)  (by repeat (first | exact .here | apply Has.there))  (put_all (by rw [l4]; rfl)) (by repeat (first | exact .here | apply Upd.there)) ?_); clear F; clear M; intro w M a F)
    refine stepD rfl F rfl (o_assign (F.ev rfl) ?_); clear F; clear a; intro a F
    with_reducible refine l_nil ?_
    with_reducible refine q_then ?_
    with_reducible refine c_ret ?_
    exact p_ret F rfl (.cons (.cell (F.ev rfl) (run_loadVar_agg TAgg.h (M.heap .here) (of_all (o := (offerO x now).h) hm.2 u2 v2))) (.cons (.tmp (F.ev rfl)) .nil)) ⟨u2, v2, rfl, ⟨hu.slAt M (fun p hp => by simp [hp]), hw.slAt M (fun p hp => by simp [hp])⟩, M.ext⟩
end Go.Proofs.Ytainnefmobfcjaa
/-! J2 -/
namespace Go.Proofs.Ytainnefmobfcjaa
set_option linter.unusedVariables false
set_option linter.unusedSimpArgs false
open Go.RowKit
attribute [local irreducible] OpTo wpListIn Code.wpIn MW Cal
theorem own_at {e : TypeId} {sz n : Nat} {v : Value} {xs : List Value} {ent : List (Nat × Obj)} (h : OwnS e sz v n xs ent) : ∀ p ∈ ent, ∃ cs, p.2 = .cells cs e (0, 0) := by
  rcases h with ⟨_, _, _, rfl⟩ | ⟨b, cap, junk, _, rfl, _⟩
  · intro p hp; cases hp
  · intro p hp
    simp only [List.mem_singleton] at hp
    subst hp
    exact ⟨_, rfl⟩
set_option maxHeartbeats 4000000 in
theorem roffM_c (x : MV) (hx : IsMv x) (now : Int) (W : World) (hA : MsAt W x) (hk1 : x.ps.length ≤ 100000) (hk2 : x.cs.length ≤ 100000) :
    Cal Try.prog 32 [.int .i64 now, .agg (mvC x).toArray].toArray W fun r w' => OffR now x W r w' := by
  have hlen := mv_len hx
  obtain ⟨hm, hbv, hbl, hps, hcs⟩ := hx
  have f1 := ms_ty hm x.u x.v
  have f2 := ms_hb hm x.u x.v
  have f3 := ms_br hm x.u x.v
  have f4 := ms_bv hm x.u x.v
  have f5 := ms_bl hm x.u x.v
  obtain ⟨q1, cap1, hu1, _⟩ := hA.1
  obtain ⟨q2, cap2, hu2, _⟩ := hA.2
  have f6 := (ms_ps hm x.u x.v).trans (congrArg some hu1)
  have f7 := (ms_cs hm x.u x.v).trans (congrArg some hu2)
  have ho : IsOff (offerO x now) := ⟨hm.2, hps, hcs⟩
  change Cal _ _ [_, .agg (msC x.m x.u x.v).toArray].toArray _ _
  have hl1 : (offerO x now).ps.length ≤ 100000 := hk1
  have hl2 : (offerO x now).cs.length ≤ 100000 := hk2
  unfold OffR
  refine fn_ofM (n := 44) [] Try.func32 rfl rfl rfl ?_
  intro a w F M hwW
  refine c_seq ?_
  refine c_region ?_
  (refine stepD rfl F rfl (o_box M (F.ev rfl) rfl ?_); clear F; clear M; intro b3 w M a F)
  (refine stepD rfl F rfl (o_alloc M ?_); clear F; clear M; intro b4 w M a F)
  refine stepD rfl F rfl (o_assign (F.ev rfl) ?_); clear F; clear a; intro a F
  with_reducible refine l_nil ?_
  with_reducible refine q_then ?_
  with_reducible refine c_seq ?_
  with_reducible refine c_seq ?_
  with_reducible refine c_region ?_
  refine stepD rfl F rfl (o_move (F.ev rfl) ?_); clear F; clear a; intro a F
  (refine stepD rfl F rfl (o_call (F.ev rfl) (F.evs rfl) (Cal.mono (risTime_c now _) ?_)); clear F; clear a; rintro _ w ⟨rfl, hE⟩ a F; replace M := M.later hE; clear hE)
  cases htm : isTime now
  · have hv : offerV now x = (offZ, 2) := by unfold offerV; rw [htm]; rfl
    rw [hv]
    rw [htm] at F
    refine stepD rfl F rfl (o_not (F.ev rfl) ?_); clear F; clear a; intro a F
    with_reducible refine l_nil ?_
    with_reducible refine q_then ?_
    refine c_true F rfl rfl ?_
    with_reducible refine c_seq ?_
    with_reducible refine c_region ?_
    refine stepD rfl F rfl (o_build F rfl rfl ?_); clear F; clear a; intro a F
    (refine stepN rfl F (o_storeA M (F.ev rfl) (F.ev rfl) (by rfl) (by rfl) (by repeat (first | exact .here | apply Has.there)) (by rfl) (by repeat (first | exact .here | apply Upd.there)) ?_); clear F; clear M; intro w M a F)
    refine stepD rfl F rfl (o_assign (F.ev rfl) ?_); clear F; clear a; intro a F
    with_reducible refine l_nil ?_
    with_reducible refine q_then ?_
    with_reducible refine c_ret ?_
    with_reducible refine q_thenR ?_
    exact p_ret F rfl (.cons (.cell (F.ev rfl) (run_loadVar_agg TAgg.h (M.heap .here) (show _ = some (ovC ⟨offZ, .slice none 0 0, .slice none 0 0⟩) from rfl))) (.cons (.tmp (F.ev rfl)) .nil)) ⟨_, _, rfl, offZ_at _, M.ext⟩
  rw [htm] at F
  have htb := isTime_bd htm
  by_cases c1 : ¬ x.m.ty = 134
  · have hv : offerV now x = (offZ, 5) := by unfold offerV; rw [htm, if_pos rfl, if_neg (fun h => c1 h.1)]
    rw [hv]
    refine stepD rfl F rfl (o_not (F.ev rfl) ?_); clear F; clear a; intro a F
    with_reducible refine l_nil ?_
    with_reducible refine q_then ?_
    refine c_false F rfl rfl ?_
    with_reducible refine c_skip ?_
    with_reducible refine q_then ?_
    with_reducible refine c_seq ?_
    with_reducible refine c_seq ?_
    with_reducible refine c_region ?_
    refine stepD rfl F rfl (o_fieldAddr (F.ev rfl) ?_); clear F; clear a; intro a F
    refine stepD rfl F rfl (o_load1 M (F.ev rfl) (by repeat (first | exact .here | apply Has.there)) (by first | assumption | rfl) ?_); clear F; clear a; intro a F
    refine stepD rfl F rfl (o_neqT (F.ev rfl) (F.ev rfl) (by omega) ?_); clear F; clear a; intro a F
    refine stepD rfl F rfl (o_move (F.ev rfl) ?_); clear F; clear a; intro a F
    refine stepOff F rfl rfl rfl rfl ?_; clear F; clear a; intro a F
    refine stepOff F rfl rfl rfl rfl ?_; clear F; clear a; intro a F
    refine stepOff F rfl rfl rfl rfl ?_; clear F; clear a; intro a F
    refine stepD rfl F rfl (o_pickT (F.ev rfl) (F.ev rfl) ?_); clear F; clear a; intro a F
    with_reducible refine l_nil ?_
    with_reducible refine q_then ?_
    refine c_true F rfl rfl ?_
    with_reducible refine c_seq ?_
    with_reducible refine c_region ?_
    refine stepD rfl F rfl (o_build F rfl rfl ?_); clear F; clear a; intro a F
    (refine stepN rfl F (o_storeA M (F.ev rfl) (F.ev rfl) (by rfl) (by rfl) (by repeat (first | exact .here | apply Has.there)) (by rfl) (by repeat (first | exact .here | apply Upd.there)) ?_); clear F; clear M; intro w M a F)
    refine stepD rfl F rfl (o_assign (F.ev rfl) ?_); clear F; clear a; intro a F
    with_reducible refine l_nil ?_
    with_reducible refine q_then ?_
    with_reducible refine c_ret ?_
    with_reducible refine q_thenR ?_
    exact p_ret F rfl (.cons (.cell (F.ev rfl) (run_loadVar_agg TAgg.h (M.heap .here) (show _ = some (ovC ⟨offZ, .slice none 0 0, .slice none 0 0⟩) from rfl))) (.cons (.tmp (F.ev rfl)) .nil)) ⟨_, _, rfl, offZ_at _, M.ext⟩
  replace c1 := Decidable.not_not.1 c1
  cases c2 : x.m.hb
  · have hv : offerV now x = (offZ, 5) := by unfold offerV; rw [htm, if_pos rfl, if_neg (fun h => by rw [c2] at h; cases h.2)]
    rw [hv]
    rw [c2] at f2
    refine stepD rfl F rfl (o_not (F.ev rfl) ?_); clear F; clear a; intro a F
    with_reducible refine l_nil ?_
    with_reducible refine q_then ?_
    refine c_false F rfl rfl ?_
    with_reducible refine c_skip ?_
    with_reducible refine q_then ?_
    with_reducible refine c_seq ?_
    with_reducible refine c_seq ?_
    with_reducible refine c_region ?_
    refine stepD rfl F rfl (o_fieldAddr (F.ev rfl) ?_); clear F; clear a; intro a F
    refine stepD rfl F rfl (o_load1 M (F.ev rfl) (by repeat (first | exact .here | apply Has.there)) (by first | assumption | rfl) ?_); clear F; clear a; intro a F
    refine stepD rfl F rfl (o_neqF (F.ev rfl) (F.ev rfl) (by omega) ?_); clear F; clear a; intro a F
    refine stepD rfl F rfl (o_move (F.ev rfl) ?_); clear F; clear a; intro a F
    refine stepG rfl F rfl rfl rfl (o_fieldAddr (F.ev rfl) ?_); clear F; clear a; intro a F
    refine stepG rfl F rfl rfl rfl (o_load1 M (F.ev rfl) (by repeat (first | exact .here | apply Has.there)) (by first | assumption | rfl) ?_); clear F; clear a; intro a F
    refine stepG rfl F rfl rfl rfl (o_not (F.ev rfl) ?_); clear F; clear a; intro a F
    refine stepD rfl F rfl (o_pickF (F.ev rfl) (F.ev rfl) ?_); clear F; clear a; intro a F
    with_reducible refine l_nil ?_
    with_reducible refine q_then ?_
    refine c_true F rfl rfl ?_
    with_reducible refine c_seq ?_
    with_reducible refine c_region ?_
    refine stepD rfl F rfl (o_build F rfl rfl ?_); clear F; clear a; intro a F
    (refine stepN rfl F (o_storeA M (F.ev rfl) (F.ev rfl) (by rfl) (by rfl) (by repeat (first | exact .here | apply Has.there)) (by rfl) (by repeat (first | exact .here | apply Upd.there)) ?_); clear F; clear M; intro w M a F)
    refine stepD rfl F rfl (o_assign (F.ev rfl) ?_); clear F; clear a; intro a F
    with_reducible refine l_nil ?_
    with_reducible refine q_then ?_
    with_reducible refine c_ret ?_
    with_reducible refine q_thenR ?_
    exact p_ret F rfl (.cons (.cell (F.ev rfl) (run_loadVar_agg TAgg.h (M.heap .here) (show _ = some (ovC ⟨offZ, .slice none 0 0, .slice none 0 0⟩) from rfl))) (.cons (.tmp (F.ev rfl)) .nil)) ⟨_, _, rfl, offZ_at _, M.ext⟩
  rw [c2] at f2
  have hv0 : offerV now x = (if validO (offerO x now) then (offerO x now, 0) else (offZ, 1)) := by unfold offerV; rw [htm, if_pos rfl, if_pos ⟨c1, c2⟩]
  have hbd : putAll [(0, 16), (16, 1), (17, 1), (18, 1), (19, 1)] ofZ [(0, ipC x.m.br), (1, [.int .i64 x.m.bv]), (2, [.int .i64 (laterV now x.m.bl)]), (3, [.slice q1 x.ps.length cap1]), (4, [.slice q2 x.cs.length cap2])] = some (ofC (offerO x now).h x.u x.v) := by
    rw [← hu1, ← hu2]
    exact of_build (o := (offerO x now).h) hm.2 x.u x.v
  refine stepD rfl F rfl (o_not (F.ev rfl) ?_); clear F; clear a; intro a F
  with_reducible refine l_nil ?_
  with_reducible refine q_then ?_
  refine c_false F rfl rfl ?_
  with_reducible refine c_skip ?_
  with_reducible refine q_then ?_
  with_reducible refine c_seq ?_
  with_reducible refine c_seq ?_
  with_reducible refine c_region ?_
  refine stepD rfl F rfl (o_fieldAddr (F.ev rfl) ?_); clear F; clear a; intro a F
  refine stepD rfl F rfl (o_load1 M (F.ev rfl) (by repeat (first | exact .here | apply Has.there)) (by first | assumption | rfl) ?_); clear F; clear a; intro a F
  refine stepD rfl F rfl (o_neqF (F.ev rfl) (F.ev rfl) (by omega) ?_); clear F; clear a; intro a F
  refine stepD rfl F rfl (o_move (F.ev rfl) ?_); clear F; clear a; intro a F
  refine stepG rfl F rfl rfl rfl (o_fieldAddr (F.ev rfl) ?_); clear F; clear a; intro a F
  refine stepG rfl F rfl rfl rfl (o_load1 M (F.ev rfl) (by repeat (first | exact .here | apply Has.there)) (by first | assumption | rfl) ?_); clear F; clear a; intro a F
  refine stepG rfl F rfl rfl rfl (o_not (F.ev rfl) ?_); clear F; clear a; intro a F
  refine stepD rfl F rfl (o_pickF (F.ev rfl) (F.ev rfl) ?_); clear F; clear a; intro a F
  with_reducible refine l_nil ?_
  with_reducible refine q_then ?_
  refine c_false F rfl rfl ?_
  with_reducible refine c_skip ?_
  with_reducible refine q_then ?_
  with_reducible refine c_seq ?_
  refine c_draw 20 F (by kernel_rfl) ?_
  intro w1 hE hok
  have M1 := M.later hE
  refine mK hok rfl rfl (fun a' w' F' E' => o_fieldAddr (F'.ev rfl) ⟨Ext.refl _ _, rfl⟩) ?_
  refine mK hok rfl rfl (fun a' w' F' E' => o_fieldAddr (F'.ev rfl) ⟨Ext.refl _ _, rfl⟩) ?_
  refine mK hok rfl rfl (fun a' w' F' E' => o_loadA (M1.later E') (F'.ev rfl) (by repeat (first | exact .here | apply Has.there)) (by first | assumption | rfl) ⟨Ext.refl _ _, rfl⟩) ?_
  refine mK hok rfl rfl (fun a' w' F' E' => o_fieldAddr (F'.ev rfl) ⟨Ext.refl _ _, rfl⟩) ?_
  refine mK hok rfl rfl (fun a' w' F' E' => o_fieldAddr (F'.ev rfl) ⟨Ext.refl _ _, rfl⟩) ?_
  refine mK hok rfl rfl (fun a' w' F' E' => o_load1 (M1.later E') (F'.ev rfl) (by repeat (first | exact .here | apply Has.there)) (by first | assumption | rfl) ⟨Ext.refl _ _, rfl⟩) ?_
  refine mK hok rfl rfl (fun a' w' F' E' => o_conv (F'.ev rfl) (w_i64 (by omega) (by omega)) ⟨Ext.refl _ _, rfl⟩) ?_
  refine mK hok rfl rfl (fun a' w' F' E' => o_move (F'.ev rfl) ⟨Ext.refl _ _, rfl⟩) ?_
  refine mK hok rfl rfl (fun a' w' F' E' => o_fieldAddr (F'.ev rfl) ⟨Ext.refl _ _, rfl⟩) ?_
  refine mK hok rfl rfl (fun a' w' F' E' => o_fieldAddr (F'.ev rfl) ⟨Ext.refl _ _, rfl⟩) ?_
  refine mK hok rfl rfl (fun a' w' F' E' => o_load1 (M1.later E') (F'.ev rfl) (by repeat (first | exact .here | apply Has.there)) (by first | assumption | rfl) ⟨Ext.refl _ _, rfl⟩) ?_
  refine mK hok rfl rfl (fun a' w' F' E' => o_conv (F'.ev rfl) (w_i64 (by omega) (by omega)) ⟨Ext.refl _ _, rfl⟩) ?_
  (refine mK hok rfl rfl (fun a' w' F' E' => o_call (F'.ev rfl) (F'.evs rfl) (Cal.mono (rafter_c now x.m.bl htb.1 htb.2 hbl.1 (by omega) _) fun _ _ hh => ⟨hh.2, hh.1⟩)) ?_)
  refine mK hok rfl rfl (fun a' w' F' E' => o_fieldAddr (F'.ev rfl) ⟨Ext.refl _ _, rfl⟩) ?_
  refine mK hok rfl rfl (fun a' w' F' E' => o_load1 (M1.later E') (F'.ev rfl) (by repeat (first | exact .here | apply Has.there)) (by first | assumption | rfl) ⟨Ext.refl _ _, rfl⟩) ?_
  refine mK hok rfl rfl (fun a' w' F' E' => o_fieldAddr (F'.ev rfl) ⟨Ext.refl _ _, rfl⟩) ?_
  refine mK hok rfl rfl (fun a' w' F' E' => o_load1 (M1.later E') (F'.ev rfl) (by repeat (first | exact .here | apply Has.there)) (by first | assumption | rfl) ⟨Ext.refl _ _, rfl⟩) ?_
  (refine mK hok rfl rfl (fun a' w' F' E' => o_build F' rfl hbd ⟨Ext.refl _ _, rfl⟩) ?_)
  refine mX (V := NewP w1.heap.size (PhC (offerO x now))) hok rfl rfl (NewP.stays _ _) (fun a' w' F' E' D' => o_call (F'.ev rfl) (F'.evs rfl) (Cal.mono (rcopyN_c ⟨offerO x now, x.u, x.v⟩ ho hl1 hl2 _ (hA.later (M1.ext.trans E'))) fun _ _ hh => newP_of E' hh)) ?_
  refine mAl hok rfl rfl (Al.stays _ _) (fun w => Ext.alloc w _) (fun a' w' F' E' => run_al) ?_
  (refine mDone rfl rfl ?_; clear F; clear M; intro a w F hE2 hX hTT hDD hPP; have M := M1.later hE2; (try dsimp only at F); simp only [List.nil_append, List.cons_append] at hX; obtain ⟨new, hΦ, hN⟩ := hX 18 _ rfl; obtain ⟨b6, e6, g6, q6⟩ := hX 19 _ rfl; obtain ⟨u2, v2, eu, ev, hr, hu, hw, rfl⟩ := hΦ; replace F := (F.know (d := 38) hr).know (d := 6) e6; replace M := M.joinNew M1 hN)
  have hdiff : ∀ p ∈ eu ++ ev, ptrTo p.1 ≠ ptrTo b6 := by
    intro p hp h
    have hb := ptrTo_inj h
    have h1 := hN.at_ p hp
    rw [hb, q6] at h1
    rcases List.mem_append.1 hp with h2 | h2
    · obtain ⟨cs, h3⟩ := own_at hu p h2
      rw [h3] at h1
      simp at h1
    · obtain ⟨cs, h3⟩ := own_at hw p h2
      rw [h3] at h1
      simp at h1
  replace M := Mem.al (pre := eu ++ ev) M M1 q6 g6 hdiff
  clear hr hN M1 hX hE2 hok hE hTT hDD hPP e6 g6 q6 hdiff
  dsimp only [ptrTo] at F
  have l2 := of_len (o := (offerO x now).h) hm.2 u2 v2
  have l3 := of_all (o := (offerO x now).h) hm.2 u2 v2
  change Frm a 44 _ ((6, _) :: (38, Value.agg (ofC (offerO x now).h u2 v2).toArray) :: _) at F
  (refine stepN rfl F (o_storeA M (F.ev rfl) (F.ev rfl) l2 (of_one _ _ _ hu.one hw.one)  (by repeat (first | exact .here | apply Has.there))  (put_all (by rw [l2]; rfl)) (by repeat (first | exact .here | apply Upd.there)) ?_); clear F; clear M; intro w M a F)
  with_reducible refine l_nil ?_
  with_reducible refine q_then ?_
  with_reducible refine c_seq ?_
  with_reducible refine c_seq ?_
  with_reducible refine c_region ?_
  refine stepD rfl F rfl (o_loadA M (F.ev rfl) (by repeat (first | exact .here | apply Has.there)) (by first | assumption | rfl) ?_); clear F; clear a; intro a F
  (refine stepD rfl F rfl (o_call (F.ev rfl) (F.evs rfl) (Cal.mono (rvalidOffer_c ⟨offerO x now, u2, v2⟩ ho _ ⟨hu.slAt M (fun p hp => by simp [hp]), hw.slAt M (fun p hp => by simp [hp])⟩) ?_)); clear F; clear a; rintro _ w ⟨rfl, hE⟩ a F; replace M := M.later hE; clear hE)
  replace M := M.perm (l' := (b4, .cells ofZ.toArray 58 (0, 0)) :: (b6, .cells (ofC (offerO x now).h u2 v2).toArray 58 (0, 0)) :: (b3, .cells (msC x.m x.u x.v).toArray 78 (0, 0)) :: (eu ++ ev)) (by classical exact List.perm_iff_count.2 fun _ => by simp only [List.count_append, List.count_cons, List.count_nil, Nat.add_zero, Nat.zero_add] <;> ac_rfl)
  cases hv : validO (offerO x now)
  · rw [hv] at F
    have hv1 : offerV now x = (offZ, 1) := by rw [hv0, hv]; rfl
    rw [hv1]
    refine stepD rfl F rfl (o_not (F.ev rfl) ?_); clear F; clear a; intro a F
    with_reducible refine l_nil ?_
    with_reducible refine q_then ?_
    refine c_true F rfl rfl ?_
    with_reducible refine c_seq ?_
    with_reducible refine c_region ?_
    refine stepD rfl F rfl (o_build F rfl rfl ?_); clear F; clear a; intro a F
    (refine stepN rfl F (o_storeA M (F.ev rfl) (F.ev rfl) (by rfl) (by rfl) (by repeat (first | exact .here | apply Has.there)) (by rfl) (by repeat (first | exact .here | apply Upd.there)) ?_); clear F; clear M; intro w M a F)
    refine stepD rfl F rfl (o_assign (F.ev rfl) ?_); clear F; clear a; intro a F
    with_reducible refine l_nil ?_
    with_reducible refine q_then ?_
    with_reducible refine c_ret ?_
    with_reducible refine q_thenR ?_
    exact p_ret F rfl (.cons (.cell (F.ev rfl) (run_loadVar_agg TAgg.h (M.heap .here) (show _ = some (ovC ⟨offZ, .slice none 0 0, .slice none 0 0⟩) from rfl))) (.cons (.tmp (F.ev rfl)) .nil)) ⟨_, _, rfl, offZ_at _, M.ext⟩
  · rw [hv] at F
    have hv1 : offerV now x = (offerO x now, 0) := by rw [hv0, hv]; rfl
    rw [hv1]
    refine stepD rfl F rfl (o_not (F.ev rfl) ?_); clear F; clear a; intro a F
    with_reducible refine l_nil ?_
    with_reducible refine q_then ?_
    refine c_false F rfl rfl ?_
    with_reducible refine c_skip ?_
    with_reducible refine q_then ?_
    with_reducible refine c_seq ?_
    with_reducible refine c_region ?_
    refine stepD rfl F rfl (o_loadA M (F.ev rfl) (by repeat (first | exact .here | apply Has.there)) (by first | assumption | rfl) ?_); clear F; clear a; intro a F
    (refine stepN rfl F (o_storeA M (F.ev rfl) (F.ev rfl) l2 (of_one _ _ _ hu.one hw.one)  (by repeat (first | exact .here | apply Has.there))  (put_all (by rw [l2]; rfl)) (by repeat (first | exact .here | apply Upd.there)) ?_); clear F; clear M; intro w M a F)
    refine stepD rfl F rfl (o_assign (F.ev rfl) ?_); clear F; clear a; intro a F
    with_reducible refine l_nil ?_
    with_reducible refine q_then ?_
    with_reducible refine c_ret ?_
    exact p_ret F rfl (.cons (.cell (F.ev rfl) (run_loadVar_agg TAgg.h (M.heap .here) (of_all (o := (offerO x now).h) hm.2 u2 v2))) (.cons (.tmp (F.ev rfl)) .nil)) ⟨u2, v2, rfl, ⟨hu.slAt M (fun p hp => by simp [hp]), hw.slAt M (fun p hp => by simp [hp])⟩, M.ext⟩
end Go.Proofs.Ytainnefmobfcjaa
/-! J3 -/
namespace Go.Proofs.Ytainnefmobfcjaa
set_option linter.unusedVariables false
set_option linter.unusedSimpArgs false
open Go.RowKit
attribute [local irreducible] OpTo wpListIn Code.wpIn MW Cal
theorem OffNew.laterL {n0 : Nat} {B : List Nat} {W w : World} {x : OV} (h : OffNew n0 W x) (hB : ∀ b ∈ B, b < n0) (E : Ext B W w) : OffNew n0 w x :=
  have hn : ∀ {v : Value}, NewV n0 v → ∀ b o s k c, v = .slice (some ⟨b, o, s⟩) k c → b ∉ B := fun hv b o s k c e hb => by
    have h1 := hv b o s k c e
    have h2 := hB b hb
    omega
  ⟨⟨h.1.1.laterB (hn h.2.1) E, h.1.2.laterB (hn h.2.2) E⟩, h.2⟩
theorem u32_bd (x : Int) : 0 ≤ IntKind.u32.wrap x ∧ IntKind.u32.wrap x ≤ 4294967295 := by
  simp [IntKind.wrap, IntKind.signed, IntKind.bits]; omega
theorem u16_bd (x : Int) : 0 ≤ IntKind.u16.wrap x ∧ IntKind.u16.wrap x ≤ 65535 := by
  simp [IntKind.wrap, IntKind.signed, IntKind.bits]; omega
theorem offerV_facts {x : MV} (h : IsMv x) (h1 : x.ps.length ≤ 1000) (h2 : x.cs.length ≤ 1000) (now : Int) : IsOff (offerV now x).1 ∧ (offerV now x).1.ps.length ≤ 1000 ∧ (offerV now x).1.cs.length ≤ 1000 ∧ ((offerV now x).2 = 0 → validO (offerV now x).1 = true) := by
  unfold offerV
  split
  · split
    · split
      · rename_i hv
        exact ⟨offerO_is h now, h1, h2, fun _ => hv⟩
      · exact ⟨offZ_is, by simp [offZ], by simp [offZ], fun h => by simp at h⟩
    · exact ⟨offZ_is, by simp [offZ], by simp [offZ], fun h => by simp at h⟩
  · exact ⟨offZ_is, by simp [offZ], by simp [offZ], fun h => by simp at h⟩
set_option maxHeartbeats 8000000 in
theorem offersL_c (raw : MV) (hx : IsMv raw) (pt : Option Addr) (cap : Nat) (xs0 : List Int) (now : Int) (W : World) (hA : MsAt W raw) (hI : IntsAt W (.slice pt xs0.length cap) xs0) (hcap : xs0.length ≤ cap) :
    Cal Try.prog 6 [.agg (mvC raw).toArray, .slice pt xs0.length cap, .int .i64 now].toArray W fun v w' => v = .bool true ∧ Ext [] W w' := by
  have hmem : 0 < xs0.length → ∃ b o cs t fz, pt = some ⟨b, o, none⟩ ∧ W.heap[b]? = some (.cells cs t fz) ∧ seg cs.toList o xs0.length = some (i64C xs0) := fun hl => by
    obtain ⟨p', cap', h1, _, h3⟩ := hI.ex
    cases h1
    exact h3 hl
  obtain ⟨q1, cap1, hu1, _⟩ := hA.1
  obtain ⟨q2, cap2, hu2, _⟩ := hA.2
  have r2 : (msC raw.m raw.u raw.v).length = 48 := ms_len hx.ms _ _
  have r3 : seg (msC raw.m raw.u raw.v) 0 48 = some (msC raw.m raw.u raw.v) := ms_all hx.ms _ _
  have r4 := (ms_ps hx.ms raw.u raw.v).trans (congrArg some hu1)
  have r5 := (ms_cs hx.ms raw.u raw.v).trans (congrArg some hu2)
  change Cal _ _ [.agg (msC raw.m raw.u raw.v).toArray, _, _].toArray _ _
  refine fn_ofM (n := 115) [] Try.func6 rfl rfl rfl ?_
  intro a w F M hwW
  refine c_seq ?_
  refine c_region ?_
  (refine stepD rfl F rfl (o_box M (F.ev rfl) rfl ?_); clear F; clear M; intro b3 w M a F)
  by_cases c1 : 20 < raw.ps.length
  · refine stepD rfl F rfl (o_assign (F.ev rfl) ?_); clear F; clear a; intro a F
    with_reducible refine l_nil ?_
    with_reducible refine q_then ?_
    with_reducible refine c_seq ?_
    with_reducible refine c_seq ?_
    with_reducible refine c_region ?_
    refine stepD rfl F rfl (o_fieldAddr (F.ev rfl) ?_); clear F; clear a; intro a F
    refine stepD rfl F rfl (o_load1 M (F.ev rfl) (by repeat (first | exact .here | apply Has.there)) (by first | assumption | rfl) ?_); clear F; clear a; intro a F
    refine stepD rfl F rfl (o_lenSl (F.ev rfl) ?_); clear F; clear a; intro a F
    refine stepD rfl F rfl (o_gtrT (F.ev rfl) (F.ev rfl) (by omega) ?_); clear F; clear a; intro a F
    refine stepD rfl F rfl (o_move (F.ev rfl) ?_); clear F; clear a; intro a F
    refine stepOff F rfl rfl rfl rfl ?_; clear F; clear a; intro a F
    refine stepOff F rfl rfl rfl rfl ?_; clear F; clear a; intro a F
    refine stepOff F rfl rfl rfl rfl ?_; clear F; clear a; intro a F
    refine stepOff F rfl rfl rfl rfl ?_; clear F; clear a; intro a F
    refine stepD rfl F rfl (o_pickT (F.ev rfl) (F.ev rfl) ?_); clear F; clear a; intro a F
    with_reducible refine l_nil ?_
    with_reducible refine q_then ?_
    refine c_true F rfl rfl ?_
    with_reducible refine c_seq ?_
    with_reducible refine c_region ?_
    (refine stepD rfl F rfl (o_call (F.ev rfl) (F.evs rfl) (Cal.mono (offered_c _) ?_)); clear F; clear a; rintro _ w ⟨rfl, hE⟩ a F; replace M := M.later hE; clear hE)
    refine stepD rfl F rfl (o_assign (F.ev rfl) ?_); clear F; clear a; intro a F
    with_reducible refine l_nil ?_
    with_reducible refine q_then ?_
    with_reducible refine c_ret ?_
    with_reducible refine q_thenR ?_
    refine p_ret F rfl (.cons (.tmp (F.ev rfl)) .nil) ?_
    exact ⟨rfl, M.ext⟩
  by_cases c2 : 20 < raw.cs.length
  · refine stepD rfl F rfl (o_assign (F.ev rfl) ?_); clear F; clear a; intro a F
    with_reducible refine l_nil ?_
    with_reducible refine q_then ?_
    with_reducible refine c_seq ?_
    with_reducible refine c_seq ?_
    with_reducible refine c_region ?_
    refine stepD rfl F rfl (o_fieldAddr (F.ev rfl) ?_); clear F; clear a; intro a F
    refine stepD rfl F rfl (o_load1 M (F.ev rfl) (by repeat (first | exact .here | apply Has.there)) (by first | assumption | rfl) ?_); clear F; clear a; intro a F
    refine stepD rfl F rfl (o_lenSl (F.ev rfl) ?_); clear F; clear a; intro a F
    refine stepD rfl F rfl (o_gtrF (F.ev rfl) (F.ev rfl) (by omega) ?_); clear F; clear a; intro a F
    refine stepD rfl F rfl (o_move (F.ev rfl) ?_); clear F; clear a; intro a F
    refine stepG rfl F rfl rfl rfl (o_fieldAddr (F.ev rfl) ?_); clear F; clear a; intro a F
    refine stepG rfl F rfl rfl rfl (o_load1 M (F.ev rfl) (by repeat (first | exact .here | apply Has.there)) (by first | assumption | rfl) ?_); clear F; clear a; intro a F
    refine stepG rfl F rfl rfl rfl (o_lenSl (F.ev rfl) ?_); clear F; clear a; intro a F
    refine stepG rfl F rfl rfl rfl (o_gtrT (F.ev rfl) (F.ev rfl) (by omega) ?_); clear F; clear a; intro a F
    refine stepD rfl F rfl (o_pickF (F.ev rfl) (F.ev rfl) ?_); clear F; clear a; intro a F
    with_reducible refine l_nil ?_
    with_reducible refine q_then ?_
    refine c_true F rfl rfl ?_
    with_reducible refine c_seq ?_
    with_reducible refine c_region ?_
    (refine stepD rfl F rfl (o_call (F.ev rfl) (F.evs rfl) (Cal.mono (offered_c _) ?_)); clear F; clear a; rintro _ w ⟨rfl, hE⟩ a F; replace M := M.later hE; clear hE)
    refine stepD rfl F rfl (o_assign (F.ev rfl) ?_); clear F; clear a; intro a F
    with_reducible refine l_nil ?_
    with_reducible refine q_then ?_
    with_reducible refine c_ret ?_
    with_reducible refine q_thenR ?_
    refine p_ret F rfl (.cons (.tmp (F.ev rfl)) .nil) ?_
    exact ⟨rfl, M.ext⟩
  refine stepD rfl F rfl (o_assign (F.ev rfl) ?_); clear F; clear a; intro a F
  with_reducible refine l_nil ?_
  with_reducible refine q_then ?_
  with_reducible refine c_seq ?_
  with_reducible refine c_seq ?_
  with_reducible refine c_region ?_
  refine stepD rfl F rfl (o_fieldAddr (F.ev rfl) ?_); clear F; clear a; intro a F
  refine stepD rfl F rfl (o_load1 M (F.ev rfl) (by repeat (first | exact .here | apply Has.there)) (by first | assumption | rfl) ?_); clear F; clear a; intro a F
  refine stepD rfl F rfl (o_lenSl (F.ev rfl) ?_); clear F; clear a; intro a F
  refine stepD rfl F rfl (o_gtrF (F.ev rfl) (F.ev rfl) (by omega) ?_); clear F; clear a; intro a F
  refine stepD rfl F rfl (o_move (F.ev rfl) ?_); clear F; clear a; intro a F
  refine stepG rfl F rfl rfl rfl (o_fieldAddr (F.ev rfl) ?_); clear F; clear a; intro a F
  refine stepG rfl F rfl rfl rfl (o_load1 M (F.ev rfl) (by repeat (first | exact .here | apply Has.there)) (by first | assumption | rfl) ?_); clear F; clear a; intro a F
  refine stepG rfl F rfl rfl rfl (o_lenSl (F.ev rfl) ?_); clear F; clear a; intro a F
  refine stepG rfl F rfl rfl rfl (o_gtrF (F.ev rfl) (F.ev rfl) (by omega) ?_); clear F; clear a; intro a F
  refine stepD rfl F rfl (o_pickF (F.ev rfl) (F.ev rfl) ?_); clear F; clear a; intro a F
  with_reducible refine l_nil ?_
  with_reducible refine q_then ?_
  refine c_false F rfl rfl ?_
  with_reducible refine c_skip ?_
  with_reducible refine q_then ?_
  with_reducible refine c_seq ?_
  with_reducible refine c_region ?_
  refine stepD rfl F rfl (o_move (F.ev rfl) ?_); clear F; clear a; intro a F
  (refine stepD rfl F rfl (o_call (F.ev rfl) (F.evs rfl) (Cal.mono (new_c xs0 _ (hI.later M.ext) hcap ) ?_)); clear F; clear a; rintro _ w ⟨bt, rfl, N⟩ a F; replace M := M.joins N; clear N)
  have hbt : W.heap.size ≤ bt := (M.own _ List.mem_cons_self).resolve_left (by simp)
  have hT : TapeS W bt pt (cut400 xs0).length (cut400 xs0) := tape_new (Ext.refl [] W) hbt hI.bd hmem
  generalize hxs : cut400 xs0 = xs at *
  generalize hlen : xs.length = len at *
  clear hxs hI hmem hcap
  simp only [List.cons_append, List.nil_append] at M
  refine stepD rfl F rfl (o_assign (F.ev rfl) ?_); clear F; clear a; intro a F
  with_reducible refine l_nil ?_
  with_reducible refine q_then ?_
  with_reducible refine c_seq ?_
  with_reducible refine c_region ?_
  refine stepD rfl F rfl (o_move (F.ev rfl) ?_); clear F; clear a; intro a F
  (refine stepD rfl F rfl (o_call (F.ev rfl) (F.evs rfl) (Cal.mono (base_c _ (hT.later M.ext.any) (M.heap .here) ) ?_)); clear F; clear a; have M0 := M; clear M; rintro _ w ⟨base, k1, rfl, ⟨hb0, hb1⟩, N⟩ a F)
  replace M := M0.turn1 N .here
  clear M0 N
  have hb3 : W.heap.size ≤ b3 := (M.own _ (.tail _ (.head _))).resolve_left (by simp)
  have hB : ∀ b ∈ [bt, b3], b < w.heap.size := by
    have h1 : bt < w.heap.size := M.lt (.head _)
    have h2 : b3 < w.heap.size := M.lt (.tail _ (.head _))
    intro b hb
    simp only [List.mem_cons, List.not_mem_nil, or_false] at hb
    rcases hb with h | h <;> (rw [h]; assumption)
  have hBW : ∀ b ∈ [bt, b3], W.heap.size ≤ b := by
    intro b hb
    simp only [List.mem_cons, List.not_mem_nil, or_false] at hb
    rcases hb with h | h <;> (rw [h]; assumption)
  refine stepD rfl F rfl (o_assign (F.ev rfl) ?_); clear F; clear a; intro a F
  with_reducible refine l_nil ?_
  with_reducible refine q_then ?_
  with_reducible refine c_seq ?_
  with_reducible refine c_region ?_
  refine stepD rfl F rfl (o_move (F.ev rfl) ?_); clear F; clear a; intro a F
  refine stepD rfl F rfl (o_move (F.ev rfl) ?_); clear F; clear a; intro a F
  (refine stepD rfl F rfl (o_call (F.ev rfl) (F.evs rfl) (Cal.mono (woffer_c base hb0 hb1 _ (hT.later M.ext.any) (M.heap .here) ) ?_)); clear F; clear a; have M0 := M; clear M; rintro _ w ⟨y, k3, rfl, hyo, hys, hyN, N⟩ a F)
  replace M := M0.turn1 N .here
  clear M0 N
  have E1 := M.ext
  replace M := M.reS [bt, b3] (by simp)
  obtain ⟨q3, cap3, hu3, _⟩ := hyN.1.1
  obtain ⟨q4, cap4, hu4, _⟩ := hyN.1.2
  have hyr := hyo.1
  have f2 : (ovC y).length = 20 := ov_len hyo
  have f4 : nth (ovC y) 18 = some (.slice q3 y.o.ps.length cap3) := (of_ps hyr y.u y.v).trans (congrArg some hu3)
  have f5 : nth (ovC y) 19 = some (.slice q4 y.o.cs.length cap4) := (of_cs hyr y.u y.v).trans (congrArg some hu4)
  have f6 : seg (ovC y) 0 16 = some (ipC y.o.h.rt) := of_rt hyr y.u y.v
  (refine stepD rfl F rfl (o_alloc M ?_); clear F; clear M; intro b9 w M a F)
  (refine stepN rfl F (o_storeA M (F.ev rfl) (F.ev rfl) (f2) (ov_one hyN.1)  (by repeat (first | exact .here | apply Has.there))  (put_all (by rw [f2]; rfl)) (by repeat (first | exact .here | apply Upd.there)) ?_); clear F; clear M; intro w M a F)
  with_reducible refine l_nil ?_
  with_reducible refine q_then ?_
  with_reducible refine c_seq ?_
  replace M := M.perm (l' := [(bt, tobj pt len cap k3)] ++ [(b9, .cells (ovC y).toArray 58 (0, 0)), (b3, .cells (msC raw.m raw.u raw.v).toArray 78 (0, 0))]) (List.Perm.swap _ _ _)
  have v1 := nxV_bd xs k3 (n := 2) (by omega)
  refine c_drawB (l0 := [(bt, tobj pt len cap k3)]) [bt] [1, 3, 12, 15, 21] M 25 F (by kernel_rfl) ?_
  intro w1 M1 hok hef
  have hB0 := hB
  have hB : ∀ k ∈ [bt], k ∈ ([(bt, tobj pt len cap k3)] : List (Nat × Obj)).map (·.1) := by simp
  have hTw : ∀ w', Ext [bt] w1 w' → TapeS w' bt pt len xs := fun w' E => hT.later ((M1.unF E1 hBW).ext.any.trans E)
  have hbw : ∀ k ∈ [bt], k < w1.heap.size := fun k hk => by
    simp only [List.mem_singleton] at hk
    subst hk
    exact M1.lt List.mem_cons_self
  refine mK hok rfl rfl (fun a' w' F' E' => o_move (F'.ev rfl) ⟨Ext.refl _ _, rfl⟩) ?_
  refine mE (T' := fun _ w => Mem _ _ w ([(bt, tobj pt len cap (nxK xs k3))] ++ _)) hok rfl rfl (fun _ _ _ h k => h.later k) (fun a' w' σ' F' E' T' => o_call (F'.ev rfl) (F'.evs rfl) (Cal.mono (next_c 2 (by omega) (by omega) _ (hTw _ E') (T'.heap .here)) fun _ _ hh => ⟨hh.2.ext, hh.1, Mem.turn1 T' hh.2 .here⟩)) ?_
  refine mK hok rfl rfl (fun a' w' F' E' => o_move (F'.ev rfl) ⟨Ext.refl _ _, rfl⟩) ?_
  refine mE (T' := fun _ w => Mem _ _ w ([(bt, tobj pt len cap (nxK xs (nxK xs k3)))] ++ _)) hok rfl rfl (fun _ _ _ h k => h.later k) (fun a' w' σ' F' E' T' => o_call (F'.ev rfl) (F'.evs rfl) (Cal.mono (next_c 2 (by omega) (by omega) _ (hTw _ E') (T'.heap .here)) fun _ _ hh => ⟨hh.2.ext, hh.1, Mem.turn1 T' hh.2 .here⟩)) ?_
  obtain ⟨k4, hk4⟩ : ∃ k4, k4 = nxK xs (nxK xs k3) := ⟨_, rfl⟩
  rw [← hk4]
  refine mK hok rfl rfl (fun a' w' F' E' => o_mul (F'.ev rfl) (F'.ev rfl) rfl ⟨Ext.refl _ _, rfl⟩) ?_
  refine mK hok rfl rfl (fun a' w' F' E' => o_add (F'.ev rfl) (F'.ev rfl) rfl ⟨Ext.refl _ _, rfl⟩) ?_
  refine mK hok rfl rfl (fun a' w' F' E' => o_conv (F'.ev rfl) rfl ⟨Ext.refl _ _, rfl⟩) ?_
  refine mK hok rfl rfl (fun a' w' F' E' => o_fieldAddr (F'.ev rfl) ⟨Ext.refl _ _, rfl⟩) ?_
  refine mK hok rfl rfl (fun a' w' F' E' => o_load1 (M1.laterBut E' hB) (F'.ev rfl) (by repeat (first | exact .here | apply Has.there)) (by first | assumption | rfl) ⟨Ext.refl _ _, rfl⟩) ?_
  refine mK hok rfl rfl (fun a' w' F' E' => o_fieldAddr (F'.ev rfl) ⟨Ext.refl _ _, rfl⟩) ?_
  refine mK hok rfl rfl (fun a' w' F' E' => o_load1 (M1.laterBut E' hB) (F'.ev rfl) (by repeat (first | exact .here | apply Has.there)) (by first | assumption | rfl) ⟨Ext.refl _ _, rfl⟩) ?_
  refine mK hok rfl rfl (fun a' w' F' E' => o_move (F'.ev rfl) ⟨Ext.refl _ _, rfl⟩) ?_
  refine mE (T' := fun _ w => Mem _ _ w ([(bt, tobj pt len cap (nxK xs (nxK xs k4)))] ++ _)) hok rfl rfl (fun _ _ _ h k => h.later k) (fun a' w' σ' F' E' T' => o_call (F'.ev rfl) (F'.evs rfl) (Cal.mono (wordD_c _ (hTw _ E') (T'.heap .here)) fun _ _ hh => ⟨hh.2.ext, hh.1, Mem.turn1 T' hh.2 .here⟩)) ?_
  refine mK hok rfl rfl (fun a' w' F' E' => o_conv (F'.ev rfl) rfl ⟨Ext.refl _ _, rfl⟩) ?_
  refine mK hok rfl rfl (fun a' w' F' E' => o_move (F'.ev rfl) ⟨Ext.refl _ _, rfl⟩) ?_
  refine mE (T' := fun _ w => Mem _ _ w ([(bt, tobj pt len cap (nxK xs (nxK xs (nxK xs (nxK xs k4)))))] ++ _)) hok rfl rfl (fun _ _ _ h k => h.later k) (fun a' w' σ' F' E' T' => o_call (F'.ev rfl) (F'.evs rfl) (Cal.mono (wordD_c _ (hTw _ E') (T'.heap .here)) fun _ _ hh => ⟨hh.2.ext, hh.1, Mem.turn1 T' hh.2 .here⟩)) ?_
  obtain ⟨k5, hk5⟩ : ∃ k5, k5 = nxK xs (nxK xs (nxK xs (nxK xs k4))) := ⟨_, rfl⟩
  rw [← hk5]
  refine mK hok rfl rfl (fun a' w' F' E' => o_conv (F'.ev rfl) rfl ⟨Ext.refl _ _, rfl⟩) ?_
  refine mK hok rfl rfl (fun a' w' F' E' => o_fieldAddr (F'.ev rfl) ⟨Ext.refl _ _, rfl⟩) ?_
  refine mK hok rfl rfl (fun a' w' F' E' => o_loadA (M1.laterBut E' hB) (F'.ev rfl) (by repeat (first | exact .here | apply Has.there)) (by first | assumption | rfl) ⟨Ext.refl _ _, rfl⟩) ?_
  (refine mK hok rfl rfl (fun a' w' F' E' => o_build F' rfl (bo_build hyr _ _) ⟨Ext.refl _ _, rfl⟩) ?_)
  refine mK hok rfl rfl (fun a' w' F' E' => o_move (F'.ev rfl) ⟨Ext.refl _ _, rfl⟩) ?_
  refine mE (T' := fun _ w => Mem _ _ w ([(bt, tobj pt len cap (nxK xs k5))] ++ _)) hok rfl rfl (fun _ _ _ h k => h.later k) (fun a' w' σ' F' E' T' => o_call (F'.ev rfl) (F'.evs rfl) (Cal.mono (bool_c 6 (by omega) (by omega) _ (hTw _ E') (T'.heap .here)) fun _ _ hh => ⟨hh.2.ext, hh.1, Mem.turn1 T' hh.2 .here⟩)) ?_
  refine mK hok rfl rfl (fun a' w' F' E' => o_not (F'.ev rfl) ⟨Ext.refl _ _, rfl⟩) ?_
  (refine mK hok rfl rfl (fun a' w' F' E' => o_build F' rfl (ms_buildN hyr _ _ _ _ _ _) ⟨Ext.refl _ _, rfl⟩) ?_)
  refine mAl hok rfl rfl (Al.staysBut _ (.cells msZ.toArray 78 (0, 0)) hbw) (fun w => Ext.alloc w _) (fun a' w' F' E' => run_al) ?_
  (refine mDone rfl hef ?_; clear F; clear M; intro a w F hE2 hX MT hDD hPP; obtain ⟨b10, e10, g10, q10⟩ := hX 24 (Al w1.heap.size (.cells msZ.toArray 78 (0, 0))) (by kernel_rfl); replace F := F.know (d := 10) e10; replace g10 : w1.heap.size ≤ b10 := g10)
  have M := Mem.al (pre := [(bt, tobj pt len cap (nxK xs k5))]) MT (M1.sub (List.sublist_cons_self _ _)) q10 g10 (by intro q hq h; simp at hq; subst hq; have h2 := ptrTo_inj h; have h3 := M1.lt (List.mem_cons_self); dsimp only at h3 h2; omega)
  clear M1 hX hE2 hok hef hB hDD hPP MT e10 g10 q10 hTw hbw
  dsimp only [ptrTo] at F
  simp only [List.cons_append, List.nil_append] at M
  obtain ⟨mb, F, hmb, hbv, hbl⟩ : ∃ mb : Msg, Frm a 115 [] [(10, .pointer (some ⟨b10, 0, none⟩)), (61, .agg (msC mb (.slice q3 y.o.ps.length cap3) (.slice q4 y.o.cs.length cap4)).toArray), (3, .pointer (some ⟨b3, 0, none⟩)), (8, .int .i64 base), (2, .int .i64 now)] ∧ IsMs mb ∧ (0 ≤ mb.bv ∧ mb.bv ≤ 4294967295) ∧ (0 ≤ mb.bl ∧ mb.bl ≤ 65535) :=
    ⟨_, F.only [10, 61, 3, 8, 2] rfl, msN_is hyr _ _ _ _, u32_bd _, u16_bd _⟩
  generalize nxK xs k5 = k6 at *
  clear hk4 hk5
  have g2 := ms_len hmb (.slice q3 y.o.ps.length cap3) (.slice q4 y.o.cs.length cap4)
  have g3 := ms_all hmb (.slice q3 y.o.ps.length cap3) (.slice q4 y.o.cs.length cap4)
  (refine stepN rfl F (o_storeA M (F.ev rfl) (F.ev rfl) g2 (ms_one _ _ _ rfl rfl)  (by repeat (first | exact .here | apply Has.there))  (put_all (by rw [g2]; rfl)) (by repeat (first | exact .here | apply Upd.there)) ?_); clear F; clear M; intro w M a F)
  with_reducible refine l_nil ?_
  with_reducible refine q_then ?_
  with_reducible refine c_seq ?_
  with_reducible refine c_region ?_
  refine stepD rfl F rfl (o_loadA M (F.ev rfl) (by repeat (first | exact .here | apply Has.there)) (by first | assumption | rfl) ?_); clear F; clear a; intro a F
  (refine stepD rfl F rfl (o_alloc M ?_); clear F; clear M; intro b11 w M a F)
  (refine stepN rfl F (o_storeA M (F.ev rfl) (F.ev rfl) r2 (ms_one _ _ _ hA.1.one hA.2.one)  (by repeat (first | exact .here | apply Has.there))  (put_all (by rw [r2]; rfl)) (by repeat (first | exact .here | apply Upd.there)) ?_); clear F; clear M; intro w M a F)
  with_reducible refine l_nil ?_
  with_reducible refine q_then ?_
  with_reducible refine c_seq ?_
  with_reducible refine c_region ?_
  refine stepD rfl F rfl (o_fieldAddr (F.ev rfl) ?_); clear F; clear a; intro a F
  (refine stepN rfl F (o_store1 M (F.ev rfl) (F.ev rfl) rfl (by repeat (first | exact .here | apply Has.there)) (ms_put_ty hx.ms _ _ _) (by repeat (first | exact .here | apply Upd.there)) ?_); clear F; clear M; intro w M a F)
  refine stepD rfl F rfl (o_fieldAddr (F.ev rfl) ?_); clear F; clear a; intro a F
  have hm1 : IsMs { raw.m with ty := 134 } := hx.ms
  (refine stepN rfl F (o_store1 M (F.ev rfl) (F.ev rfl) rfl (by repeat (first | exact .here | apply Has.there)) (ms_put_hb hm1 _ _ _) (by repeat (first | exact .here | apply Upd.there)) ?_); clear F; clear M; intro w M a F)
  have hm2 : IsMs { { raw.m with ty := 134 } with hb := true } := hx.ms
  have t3 := ms_all hm2 raw.u raw.v
  with_reducible refine l_nil ?_
  with_reducible refine q_then ?_
  with_reducible refine c_seq ?_
  with_reducible refine c_seq ?_
  with_reducible refine c_region ?_
  refine stepD rfl F rfl (o_loadA M (F.ev rfl) (by repeat (first | exact .here | apply Has.there)) (by first | assumption | rfl) ?_); clear F; clear a; intro a F
  refine stepD rfl F rfl (o_loadA M (F.ev rfl) (by repeat (first | exact .here | apply Has.there)) (by first | assumption | rfl) ?_); clear F; clear a; intro a F
  refine stepD rfl F rfl (o_loadA M (F.ev rfl) (by repeat (first | exact .here | apply Has.there)) (by first | assumption | rfl) ?_); clear F; clear a; intro a F
  have hzA : IsMv raw := hx
  have hzB : IsMv ⟨mb, y.o.ps, y.o.cs, .slice q3 y.o.ps.length cap3, .slice q4 y.o.cs.length cap4⟩ := ⟨hmb, hbv, hbl, hyo.2.1, hyo.2.2⟩
  have hzC : IsMv ⟨{ { raw.m with ty := 134 } with hb := true }, raw.ps, raw.cs, raw.u, raw.v⟩ := ⟨hm2, hx.bv, hx.bl, hx.ps, hx.cs⟩
  (refine stepD rfl F rfl (o_buildSlice F M rfl rfl rfl (put3 hzA hzB hzC) ?_); clear F; clear M; intro b68 w M a F)
  obtain ⟨L, hL⟩ : ∃ L : List MV, L = [raw, ⟨mb, y.o.ps, y.o.cs, .slice q3 y.o.ps.length cap3, .slice q4 y.o.cs.length cap4⟩, ⟨{ { raw.m with ty := 134 } with hb := true }, raw.ps, raw.cs, raw.u, raw.v⟩] := ⟨_, rfl⟩
  rw [← hL] at M
  have hl3 : L.length = 3 := by rw [hL]; rfl
  have hyw := (hyN.laterL hB0 M.ext).1
  have E0 : Ext [] W w := (M.unF E1 hBW).ext
  have hLz : ∀ z ∈ L, IsMv z ∧ MsAt w z ∧ z.ps.length ≤ 1000 ∧ z.cs.length ≤ 1000 := by
    intro z hz
    rw [hL] at hz
    simp only [List.mem_cons, List.not_mem_nil, or_false] at hz
    rcases hz with h | h | h
    · rw [h]; exact ⟨hzA, hA.later E0, by omega, by omega⟩
    · rw [h]; exact ⟨hzB, ⟨by have := hyw.1; rw [hu3] at this; exact this, by have := hyw.2; rw [hu4] at this; exact this⟩, by show y.o.ps.length ≤ 1000; omega, by show y.o.cs.length ≤ 1000; omega⟩
    · rw [h]; exact ⟨hzC, hA.later E0, by show raw.ps.length ≤ 1000; omega, by show raw.cs.length ≤ 1000; omega⟩
  have hB68 : w.heap[b68]? = some (.cells (encL mvC L).toArray 78 (0, 0)) := M.heap .here
  clear hL hzA hzB hzC hyw hyN hyo hmb hbv hbl g2 g3 t3 hm1 hm2 M
  obtain ⟨wL, hwL⟩ : ∃ wL, wL = w := ⟨w, rfl⟩
  rw [← hwL] at hB68 hLz E0
  have M : Mem [] wL w [] := by rw [hwL]; exact Mem.start [] w
  clear hwL
  have hsz : ∀ z ∈ L, (mvC z).length = 48 := fun z hz => mv_len (hLz z hz).1
  refine stepD rfl F rfl (o_lenSl (F.ev rfl) ?_); clear F; clear a; intro a F
  refine stepD rfl F rfl (o_move (F.ev rfl) ?_); clear F; clear a; intro a F
  with_reducible refine l_nil ?_
  with_reducible refine q_then ?_
  with_reducible refine c_block ?_
  refine c_loop (fun m a w => ∃ i : Nat, m = 3 - i ∧ i ≤ 3 ∧ Frm a 115 [] [(70, .int .i64 (i : Int)), (69, .int .i64 (3 : Nat)), (68, .slice (some ⟨b68, 0, none⟩) 3 3), (8, .int .i64 base), (2, .int .i64 now)] ∧ Mem [] wL w []) 3 ⟨0, rfl, by omega, F.only [70, 69, 68, 8, 2] rfl, M⟩ ?_
  clear F M
  rintro m a w ⟨i, hm, hi, F, M⟩
  by_cases hlt : i < 3
  · obtain ⟨z, hz0⟩ : ∃ z, z = L[i] := ⟨_, rfl⟩
    have hzm : z ∈ L := by rw [hz0]; exact List.getElem_mem _
    obtain ⟨hz, hzA, hzl1, hzl2⟩ := hLz z hzm
    have f1 : seg (encL mvC L) (0 + (i : Int).toNat * 48) 48 = some (mvC z) := by
      rw [hz0]
      exact seg_el (o := 0) (n := 3) hsz (by rw [← hl3]; exact sg_all (by rw [encL_len hsz])) (by omega) (by omega)
    have f2 := mv_len hz
    have f3 : seg (mvC z) 0 48 = some (mvC z) := sg_all f2
    have f4 := mv_one hzA
    clear hz0
    with_reducible refine c_seq ?_
    with_reducible refine c_region ?_
    refine stepD rfl F rfl (o_lssT (F.ev rfl) (F.ev rfl) (by omega) ?_); clear F; clear a; intro a F
    with_reducible refine l_nil ?_
    with_reducible refine q_then ?_
    with_reducible refine c_seq ?_
    refine c_true F rfl rfl ?_
    with_reducible refine c_skip ?_
    with_reducible refine q_then ?_
    with_reducible refine c_seq ?_
    with_reducible refine c_block ?_
    with_reducible refine c_seq ?_
    with_reducible refine c_region ?_
    refine stepD rfl F rfl (o_indexSl (F.ev rfl) (F.ev rfl) (by omega) (by omega) ?_); clear F; clear a; intro a F
    refine stepD rfl F rfl (o_loadWA M (F.ev rfl) (by assumption) (by first | assumption | rfl) ?_); clear F; clear a; intro a F
    (refine stepD rfl F rfl (o_alloc M ?_); clear F; clear M; intro b13 w M a F)
    (refine stepN rfl F (o_storeA M (F.ev rfl) (F.ev rfl) f2 f4  (by repeat (first | exact .here | apply Has.there))  (put_all (by rw [f2]; rfl)) (by repeat (first | exact .here | apply Upd.there)) ?_); clear F; clear M; intro w M a F)
    with_reducible refine l_nil ?_
    with_reducible refine q_then ?_
    with_reducible refine c_seq ?_
    with_reducible refine c_region ?_
    refine stepD rfl F rfl (o_move (F.ev rfl) ?_); clear F; clear a; intro a F
    refine stepD rfl F rfl (o_move (F.ev rfl) ?_); clear F; clear a; intro a F
    (refine stepD rfl F rfl (o_buildSlice F M rfl rfl rfl rfl ?_); clear F; clear M; intro b76 w M a F)
    refine stepD rfl F rfl (o_lenSl (F.ev rfl) ?_); clear F; clear a; intro a F
    refine stepD rfl F rfl (o_move (F.ev rfl) ?_); clear F; clear a; intro a F
    with_reducible refine l_nil ?_
    with_reducible refine q_then ?_
    with_reducible refine c_block ?_
    refine c_loop (fun m a w => ∃ j : Nat, m = 2 - j ∧ j ≤ 2 ∧ Frm a 115 [] [(78, .int .i64 (j : Int)), (77, .int .i64 (2 : Nat)), (76, .slice (some ⟨b76, 0, none⟩) 2 2), (13, .pointer (some ⟨b13, 0, none⟩)), (70, .int .i64 (i : Int)), (69, .int .i64 (3 : Nat)), (68, .slice (some ⟨b68, 0, none⟩) 3 3), (8, .int .i64 base), (2, .int .i64 now)] ∧ Mem [] wL w [(b76, .cells [Value.int .i64 now, .int .i64 base].toArray 3 (0, 0)), (b13, .cells (mvC z).toArray 78 (0, 0))]) 2 ⟨0, rfl, by omega, F.only [78, 77, 76, 13, 70, 69, 68, 8, 2] rfl, M⟩ ?_
    clear F M
    rintro m2 a w ⟨j, hm2, hj, F, M⟩
    by_cases hlt2 : j < 2
    · obtain ⟨at_, hat⟩ : ∃ x, nth [Value.int .i64 now, .int .i64 base] (0 + (j : Int).toNat * 1) = some (.int .i64 x) := by
        have : j = 0 ∨ j = 1 := by omega
        rcases this with h | h <;> subst h
        · exact ⟨now, rfl⟩
        · exact ⟨base, rfl⟩
      obtain ⟨ho1, ho2, ho3, ho4⟩ := offerV_facts hz hzl1 hzl2 at_
      with_reducible refine c_seq ?_
      with_reducible refine c_region ?_
      refine stepD rfl F rfl (o_lssT (F.ev rfl) (F.ev rfl) (by omega) ?_); clear F; clear a; intro a F
      with_reducible refine l_nil ?_
      with_reducible refine q_then ?_
      with_reducible refine c_seq ?_
      refine c_true F rfl rfl ?_
      with_reducible refine c_skip ?_
      with_reducible refine q_then ?_
      with_reducible refine c_seq ?_
      with_reducible refine c_block ?_
      with_reducible refine c_seq ?_
      with_reducible refine c_region ?_
      refine stepD rfl F rfl (o_indexSl (F.ev rfl) (F.ev rfl) (by omega) (by omega) ?_); clear F; clear a; intro a F
      refine stepD rfl F rfl (o_load1 M (F.ev rfl) (by repeat (first | exact .here | apply Has.there)) (by first | assumption | rfl) ?_); clear F; clear a; intro a F
      refine stepD rfl F rfl (o_assign (F.ev rfl) ?_); clear F; clear a; intro a F
      with_reducible refine l_nil ?_
      with_reducible refine q_then ?_
      with_reducible refine c_seq ?_
      with_reducible refine c_region ?_
      refine stepD rfl F rfl (o_move (F.ev rfl) ?_); clear F; clear a; intro a F
      refine stepD rfl F rfl (o_loadA M (F.ev rfl) (by repeat (first | exact .here | apply Has.there)) (by first | assumption | rfl) ?_); clear F; clear a; intro a F
      (refine stepD rfl F rfl (o_call (F.ev rfl) (F.evs rfl) (Cal.mono (offM_c z hz at_ _ (hzA.later M.ext)) ?_)); clear F; clear a; rintro _ w ⟨u1, w1, rfl, hO1, hE⟩ a F; replace M := M.later hE; clear hE)
      have M0 := M
      have hB76 := M.heap .here
      have hB13 := M.heap (.there .here)
      clear M
      obtain ⟨wM, hwM⟩ : ∃ wM, wM = w := ⟨w, rfl⟩
      rw [← hwM] at M0 hB76 hB13 hO1
      have M : Mem [] wM w [] := by rw [hwM]; exact Mem.start [] w
      clear hwM
      have g1 : (ovC ⟨(offerV at_ z).1, u1, w1⟩).length = 20 := ov_len ho1
      have g2 : seg (ovC ⟨(offerV at_ z).1, u1, w1⟩) 0 20 = some (ovC ⟨(offerV at_ z).1, u1, w1⟩) := of_all ho1.1 _ _
      refine stepD rfl F rfl (o_move (F.ev rfl) ?_); clear F; clear a; intro a F
      refine stepD rfl F rfl (o_extract (F.ev rfl) rfl ?_); clear F; clear a; intro a F
      refine stepD rfl F rfl (o_extract (F.ev rfl) rfl ?_); clear F; clear a; intro a F
      (refine stepD rfl F rfl (o_alloc M ?_); clear F; clear M; intro b16 w M a F)
      (refine stepN rfl F (o_storeA M (F.ev rfl) (F.ev rfl) g1 (ov_one hO1)  (by repeat (first | exact .here | apply Has.there))  (put_all (by rw [g1]; rfl)) (by repeat (first | exact .here | apply Upd.there)) ?_); clear F; clear M; intro w M a F)
      refine stepD rfl F rfl (o_assign (F.ev rfl) ?_); clear F; clear a; intro a F
      with_reducible refine l_nil ?_
      with_reducible refine q_then ?_
      with_reducible refine c_seq ?_
      with_reducible refine c_region ?_
      refine stepD rfl F rfl (o_move (F.ev rfl) ?_); clear F; clear a; intro a F
      refine stepD rfl F rfl (o_loadWA M (F.ev rfl) (by assumption) (by first | assumption | rfl) ?_); clear F; clear a; intro a F
      (refine stepD rfl F rfl (o_call (F.ev rfl) (F.evs rfl) (Cal.mono (roffM_c z hz at_ _ (hzA.later (M0.ext.trans M.ext)) (by omega) (by omega)) ?_)); clear F; clear a; rintro _ w ⟨u2, w2, rfl, hO2, hE⟩ a F; replace M := M.later hE; clear hE)
      have E3 := M.ext
      have hB16 := M.heap .here
      replace hO1 := hO1.later E3
      clear M
      obtain ⟨wN, hwN⟩ : ∃ wN, wN = w := ⟨w, rfl⟩
      rw [← hwN] at E3 hB16 hO1 hO2
      have M : Mem [] wN w [] := by rw [hwN]; exact Mem.start [] w
      clear hwN
      have g3 : (ovC ⟨(offerV at_ z).1, u2, w2⟩).length = 20 := ov_len ho1
      have g4 : seg (ovC ⟨(offerV at_ z).1, u2, w2⟩) 0 20 = some (ovC ⟨(offerV at_ z).1, u2, w2⟩) := of_all ho1.1 _ _
      refine stepD rfl F rfl (o_move (F.ev rfl) ?_); clear F; clear a; intro a F
      refine stepD rfl F rfl (o_extract (F.ev rfl) rfl ?_); clear F; clear a; intro a F
      refine stepD rfl F rfl (o_extract (F.ev rfl) rfl ?_); clear F; clear a; intro a F
      (refine stepD rfl F rfl (o_alloc M ?_); clear F; clear M; intro b18 w M a F)
      (refine stepN rfl F (o_storeA M (F.ev rfl) (F.ev rfl) g3 (ov_one hO2)  (by repeat (first | exact .here | apply Has.there))  (put_all (by rw [g3]; rfl)) (by repeat (first | exact .here | apply Upd.there)) ?_); clear F; clear M; intro w M a F)
      refine stepD rfl F rfl (o_assign (F.ev rfl) ?_); clear F; clear a; intro a F
      with_reducible refine l_nil ?_
      with_reducible refine q_then ?_
      with_reducible refine c_seq ?_
      with_reducible refine c_region ?_
      refine stepD rfl F rfl (o_move (F.ev rfl) ?_); clear F; clear a; intro a F
      refine stepD rfl F rfl (o_move (F.ev rfl) ?_); clear F; clear a; intro a F
      refine stepD rfl F rfl (o_neqF (F.ev rfl) (F.ev rfl) (by omega) ?_); clear F; clear a; intro a F
      refine stepD rfl F rfl (o_move (F.ev rfl) ?_); clear F; clear a; intro a F
      refine stepG rfl F rfl rfl rfl (o_loadWA M (F.ev rfl) (by assumption) (by first | assumption | rfl) ?_); clear F; clear a; intro a F
      refine stepG rfl F rfl rfl rfl (o_loadA M (F.ev rfl) (by repeat (first | exact .here | apply Has.there)) (by first | assumption | rfl) ?_); clear F; clear a; intro a F
      (refine stepG rfl F rfl rfl rfl (o_call (F.ev rfl) (F.evs rfl) (Cal.mono (sameOffer_c ⟨(offerV at_ z).1, u1, w1⟩ ⟨(offerV at_ z).1, u2, w2⟩ ho1 rfl ho2 ho3 _ (hO1.later M.ext) (hO2.later M.ext)) ?_)); clear F; clear a; rintro _ w ⟨rfl, hE⟩ a F; replace M := M.later hE; clear hE)
      by_cases he : (offerV at_ z).2 = 0
      · have hval := ho4 he
        refine stepG rfl F rfl rfl rfl (o_not (F.ev rfl) ?_); clear F; clear a; intro a F
        refine stepD rfl F rfl (o_pickF (F.ev rfl) (F.ev rfl) ?_); clear F; clear a; intro a F
        refine stepD rfl F rfl (o_move (F.ev rfl) ?_); clear F; clear a; intro a F
        refine stepG rfl F rfl rfl rfl (o_move (F.ev rfl) ?_); clear F; clear a; intro a F
        refine stepG rfl F rfl rfl rfl (o_eqlT (F.ev rfl) (F.ev rfl) (by omega) ?_); clear F; clear a; intro a F
        refine stepG rfl F rfl rfl rfl (o_move (F.ev rfl) ?_); clear F; clear a; intro a F
        refine stepG rfl F rfl rfl rfl (o_loadWA M (F.ev rfl) (by assumption) (by first | assumption | rfl) ?_); clear F; clear a; intro a F
        (refine stepG rfl F rfl rfl rfl (o_call (F.ev rfl) (F.evs rfl) (Cal.mono (validOffer_c ⟨(offerV at_ z).1, u1, w1⟩ ho1 _ (hO1.later M.ext)) ?_)); clear F; clear a; rintro _ w ⟨rfl, hE⟩ a F; replace M := M.later hE; clear hE)
        rw [hval] at F
        refine stepG rfl F rfl rfl rfl (o_not (F.ev rfl) ?_); clear F; clear a; intro a F
        refine stepG rfl F rfl rfl rfl (o_pickT (F.ev rfl) (F.ev rfl) ?_); clear F; clear a; intro a F
        refine stepD rfl F rfl (o_pickF (F.ev rfl) (F.ev rfl) ?_); clear F; clear a; intro a F
        with_reducible refine l_nil ?_
        with_reducible refine q_then ?_
        refine c_false F rfl rfl ?_
        with_reducible refine c_skip ?_
        with_reducible refine q_inB ?_
        with_reducible refine q_then ?_
        with_reducible refine c_region ?_
        refine stepD rfl F rfl (o_add (F.ev rfl) (F.ev rfl) (w_i64 (by omega) (by omega)) ?_); clear F; clear a; intro a F
        refine stepD rfl F rfl (o_move (F.ev rfl) ?_); clear F; clear a; intro a F
        with_reducible refine l_nil ?_
        with_reducible refine q_then ?_
        exact ⟨_, by omega, j + 1, rfl, by omega, F.only [78, 77, 76, 13, 70, 69, 68, 8, 2] rfl, M0.later (E3.trans M.ext)⟩
      · refine stepG rfl F rfl rfl rfl (o_not (F.ev rfl) ?_); clear F; clear a; intro a F
        refine stepD rfl F rfl (o_pickF (F.ev rfl) (F.ev rfl) ?_); clear F; clear a; intro a F
        refine stepD rfl F rfl (o_move (F.ev rfl) ?_); clear F; clear a; intro a F
        refine stepG rfl F rfl rfl rfl (o_move (F.ev rfl) ?_); clear F; clear a; intro a F
        refine stepG rfl F rfl rfl rfl (o_eqlF (F.ev rfl) (F.ev rfl) (by omega) ?_); clear F; clear a; intro a F
        refine stepG rfl F rfl rfl rfl (o_move (F.ev rfl) ?_); clear F; clear a; intro a F
        refine stepOff F rfl rfl rfl rfl ?_; clear F; clear a; intro a F
        refine stepOff F rfl rfl rfl rfl ?_; clear F; clear a; intro a F
        refine stepOff F rfl rfl rfl rfl ?_; clear F; clear a; intro a F
        refine stepG rfl F rfl rfl rfl (o_pickF (F.ev rfl) (F.ev rfl) ?_); clear F; clear a; intro a F
        refine stepD rfl F rfl (o_pickF (F.ev rfl) (F.ev rfl) ?_); clear F; clear a; intro a F
        with_reducible refine l_nil ?_
        with_reducible refine q_then ?_
        refine c_false F rfl rfl ?_
        with_reducible refine c_skip ?_
        with_reducible refine q_inB ?_
        with_reducible refine q_then ?_
        with_reducible refine c_region ?_
        refine stepD rfl F rfl (o_add (F.ev rfl) (F.ev rfl) (w_i64 (by omega) (by omega)) ?_); clear F; clear a; intro a F
        refine stepD rfl F rfl (o_move (F.ev rfl) ?_); clear F; clear a; intro a F
        with_reducible refine l_nil ?_
        with_reducible refine q_then ?_
        exact ⟨_, by omega, j + 1, rfl, by omega, F.only [78, 77, 76, 13, 70, 69, 68, 8, 2] rfl, M0.later (E3.trans M.ext)⟩
    · obtain rfl : j = 2 := by omega
      with_reducible refine c_seq ?_
      with_reducible refine c_region ?_
      refine stepD rfl F rfl (o_lssF (F.ev rfl) (F.ev rfl) (by omega) ?_); clear F; clear a; intro a F
      with_reducible refine l_nil ?_
      with_reducible refine q_then ?_
      with_reducible refine c_seq ?_
      refine c_false F rfl rfl ?_
      with_reducible refine c_exit ?_
      with_reducible refine q_thenX ?_
      with_reducible refine q_thenX ?_
      with_reducible refine q_inBX ?_
      with_reducible refine q_inB ?_
      with_reducible refine q_then ?_
      with_reducible refine c_region ?_
      refine stepD rfl F rfl (o_add (F.ev rfl) (F.ev rfl) (w_i64 (by omega) (by omega)) ?_); clear F; clear a; intro a F
      refine stepD rfl F rfl (o_move (F.ev rfl) ?_); clear F; clear a; intro a F
      with_reducible refine l_nil ?_
      with_reducible refine q_then ?_
      exact ⟨_, by omega, i + 1, rfl, by omega, F.only [70, 69, 68, 8, 2] rfl, M.sub (List.nil_sublist _)⟩
  · obtain rfl : i = 3 := by omega
    with_reducible refine c_seq ?_
    with_reducible refine c_region ?_
    refine stepD rfl F rfl (o_lssF (F.ev rfl) (F.ev rfl) (by omega) ?_); clear F; clear a; intro a F
    with_reducible refine l_nil ?_
    with_reducible refine q_then ?_
    with_reducible refine c_seq ?_
    refine c_false F rfl rfl ?_
    with_reducible refine c_exit ?_
    with_reducible refine q_thenX ?_
    with_reducible refine q_thenX ?_
    with_reducible refine q_inBX ?_
    with_reducible refine q_then ?_
    with_reducible refine c_seq ?_
    with_reducible refine c_region ?_
    (refine stepD rfl F rfl (o_call (F.ev rfl) (F.evs rfl) (Cal.mono (offered_c _) ?_)); clear F; clear a; rintro _ w ⟨rfl, hE⟩ a F; replace M := M.later hE; clear hE)
    refine stepD rfl F rfl (o_assign (F.ev rfl) ?_); clear F; clear a; intro a F
    with_reducible refine l_nil ?_
    with_reducible refine q_then ?_
    with_reducible refine c_ret ?_
    refine p_ret F rfl (.cons (.tmp (F.ev rfl)) .nil) ?_
    exact ⟨rfl, E0.trans M.ext⟩
end Go.Proofs.Ytainnefmobfcjaa
namespace Go.Proofs.Ytainnefmobfcjaa
set_option linter.unusedVariables false
set_option linter.unusedSimpArgs false
open Go.ChangeShapes Go.WideShapes Go.ChangeAt Go.RowKit
set_option maxRecDepth 100000 in
theorem borderOffers_contract (H : Type) (enc : TypeId × Value → H) (W : World) (base : Nat) (args : Array Value) (ds gs : List (DataW H)) (before : List MemPlace)
    (hval : ∀ (j : Nat) t v, Try.f6.params[j]? = some t → args[j]? = some v → Value.okWide Try.prog W .any base t v)
    (hW : DataW.Whole enc Try.prog Try.f6.params.toList Rows.borderOffersSpec.vars false W args.toList ds gs before) (hL : laidMetH Try.prog seatLaid W) (hS : W.ShapedOpen Try.prog) :
    Calls Try.prog 6 args W fun e W' => ∃ v, e = .returned v ∧ Rows.borderOffersSpec.post enc Try.prog Try.f6 false true false false W args v W' := by
  have hW' := hW
  obtain ⟨p, q, hA0, hV, rfl, hfz, hnd⟩ := hW
  have hA : DataW.TrodAll enc Try.prog W 0 (fun _ => true) true Try.f6.params.toList args.toList ds p := hA0
  rw [Try.params6] at hA hval
  obtain ⟨v0, vs0, d0, ds0, p0, q0, hargs, rfl, rfl, h0, r0⟩ := trodAll_cons hA
  obtain ⟨v1, vs1, d1, ds1, p1, q1, rfl, rfl, rfl, h1, r1⟩ := trodAll_cons r0
  obtain ⟨v2, vs2, d2, ds2, p2, q2, rfl, rfl, rfl, h2, r2⟩ := trodAll_cons r1
  obtain ⟨rfl, rfl, rfl⟩ := trodAll_nil r2
  obtain rfl : args = #[v0, v1, v2] := by cases args; simp_all
  obtain ⟨x0, hx0, hma0, rfl⟩ := open_msg (hval 0 _ v0 rfl rfl) h0
  obtain ⟨l1, q1p, cap1, rfl, hc1, hx1⟩ := open_il (hval 1 _ v1 rfl rfl) h1
  obtain ⟨x2, rfl, rfl, rfl, w2⟩ := open_int Try.underlying3 (hval 2 _ v2 rfl rfl) h2; have hx2 := int_bd w2
  refine ((offersL_c x0 hx0 q1p cap1 l1 x2 W hma0 hx1 hc1).calls).mono ?_
  rintro e W' ⟨v, rfl, rfl, hE⟩
  exact ⟨_, rfl, law_post (tb := 4) laidOut (by kernel_rfl) rfl (by kernel_rfl) Try.underlying4 (fun xs hx => by rw [Try.params6] at hx; match xs, hx with | [_, _, _], _ => rfl) hW' hE⟩
set_option maxRecDepth 100000 in
theorem borderOffers_lifted (os : Os) (started : os.Started) (H : Type) (enc : TypeId × Value → H) (F : Stop.Interp) :
    ReturnsInHanded {} Try.checked os 6 .any ((OpenSpec.ofChange Rows.borderOffersSpec).preRow enc Try.prog Try.f6 Rows.borderOffersRow.domain false Rows.borderOffersRow.laid) (((OpenSpec.ofChange Rows.borderOffersSpec).at F).post enc Try.prog Try.f6 false true false false) := by
  have hx : ∃ places ds, DataW.whole enc Try.prog ((laidWorld os).forCall (fun _ _ => 0) ⟨#[], #[.agg msZ.toArray, .slice none 0 0, .int .i64 0], []⟩).memory Try.f6.params.toList Rows.borderOffersSpec.vars false #[Value.agg msZ.toArray, .slice none 0 0, .int .i64 0].toList 8 = some (ds, [], places) ∧ ds = [.agg [.lit (.int .u8 0), .lit (.int .u8 0), .lit (.int .u16 0), .agg (List.replicate 16 (.lit (.int .u8 0))), .agg [.lit (.int .i64 0), .lit (.int .u16 0), .lit (.int .u64 0)], .agg [.lit (.int .u64 0), .lit (.int .u8 0), .lit (.int .u8 0), .lit (.int .u16 0)], .lit (.bool false), .nil, .nil, .agg [.lit (.int .u32 0), .lit (.int .u16 0), .agg (List.replicate 16 (.lit (.int .u8 0)))], .lit (.bool false)], .nil, .lit (.int .i64 0)] := ⟨[], [.agg [.lit (.int .u8 0), .lit (.int .u8 0), .lit (.int .u16 0), .agg (List.replicate 16 (.lit (.int .u8 0))), .agg [.lit (.int .i64 0), .lit (.int .u16 0), .lit (.int .u64 0)], .agg [.lit (.int .u64 0), .lit (.int .u8 0), .lit (.int .u8 0), .lit (.int .u16 0)], .lit (.bool false), .nil, .nil, .agg [.lit (.int .u32 0), .lit (.int .u16 0), .agg (List.replicate 16 (.lit (.int .u8 0)))], .lit (.bool false)], .nil, .lit (.int .i64 0)], by kernel_rfl, rfl⟩
  obtain ⟨places, ds, hx, rfl⟩ := hx
  refine returnsInHanded_of_row (C := Try.checked) (s := OpenSpec.ofChange Rows.borderOffersSpec) own started (by kernel_rfl) Try.func6
    (witness_row_at (enc := enc) (C := Try.checked) false (laidWorld os) #[.agg msZ.toArray, .slice none 0 0, .int .i64 0] rfl (by kernel_rfl) (by kernel_rfl) (by kernel_rfl)
      (OpenSpec.preRow_of_cond 8 hx (by kernel_rfl) (fun k hk => by cases hk) (by kernel_rfl) (laid_met os _))) ?_
  intro W base args ds gs before hval hW _ hcond _ hL hS _
  exact borderOffers_contract H enc W base args ds gs before hval hW hL hS
theorem borderOffers_said : Rows.BorderOffersSaid :=
  OpenClaim.holds_of_cond 6 Try.f6 rfl rfl rfl rfl rfl rfl rfl ⟨rfl, rfl, rfl, rfl, rfl⟩ rfl rfl rfl rfl rfl (by kernel_rfl) Try.func6 (by kernel_rfl)
    (of_decide_eq_true (by kernel_rfl)) (by unfold Func.isWrapper; first | (rw [if_pos (by decide +kernel)]; kernel_rfl) | (rw [if_neg (by decide +kernel)]; exact ⟨rfl, rfl⟩))
    (fun os started H enc _ F => by rw [OpenClaim.pre_eq_preRow]; exact borderOffers_lifted os started H enc F)
#print axioms borderOffers_said
end Go.Proofs.Ytainnefmobfcjaa
