/-
  strings.Cut at two colons, address.ParseIP.
-/
import Derived.Test.YtadnpidadcgdcaaDoorP3
import Derived.Test.YtadnpidadcgdcaaDoorMask
namespace Go.Proofs.YtadnpidadcgdcaaDoor
set_option linter.unusedVariables false
set_option linter.unusedSimpArgs false
open Go.RowKit
attribute [local irreducible] OpTo wpListIn Code.wpIn MW Cal

/-- the variable that strings.Index looks at holds some number -/
def GM (W : World) : Prop := ∃ m : Int, W.cell? ⟨0, 0, none⟩ = some (.int .i64 m)
theorem GM.later {W w : World} (h : GM W) (e : Ext [] W w) : GM w := by
  obtain ⟨m, hm⟩ := h
  have hlt : 0 < W.heap.size := by
    have := block_lt_of_cell hm
    simpa using this
  exact ⟨m, by rw [World.cell?_of_block (w := W) (e.block 0 hlt (by simp))]; exact hm⟩
theorem cut_c (s : List UInt8) (hs : s.length < 4294967281) (W : World) (hG : GM W) : Cal Tryd.prog 58 [mkS s, mkS [58, 58]].toArray W fun v w' => v = .tuple #[mkS (Lib.cut s [58, 58]).1, mkS (Lib.cut s [58, 58]).2.1, .bool (Lib.cut s [58, 58]).2.2] ∧ Ext [] W w' := by
  obtain ⟨m, hm⟩ := hG
  exact Cal.of_calls (Tryd.strings_Cut ⟨s.toArray⟩ ⟨[58, 58].toArray⟩ m W (by simpa [mkS_size] using hs) hm) fun e w' ⟨he, n, hw⟩ => ⟨_, he, rfl, by rw [hw]; exact Ext.drawn _ _⟩

theorem grpGo_bd : ∀ (bs : List UInt8) (g r : Int) (k : Nat), 0 ≤ g → g < 16 ^ k → grpGo bs g = some r → 0 ≤ r ∧ r < 16 ^ (k + bs.length)
  | [], g, r, k, h0, h1, h => by simp [grpGo] at h; subst h; exact ⟨h0, by simpa using h1⟩
  | c :: cs, g, r, k, h0, h1, h => by
    simp only [grpGo] at h
    cases hd : digV c.toNat with
    | none => simp [hd] at h
    | some d =>
      rw [hd] at h
      have hb := digV_bd hd
      have := grpGo_bd cs (16 * g + d) r (k + 1) (by omega) (by rw [Int.pow_succ]; omega) h
      refine ⟨this.1, ?_⟩
      rw [show k + (c :: cs).length = k + 1 + cs.length by simp; omega]
      exact this.2
theorem grpV_bd {bs : List UInt8} {g : Int} (h : grpV bs = some g) : 0 ≤ g ∧ g ≤ 65535 := by
  unfold grpV at h
  split at h
  · cases h
  · rename_i hn
    have := grpGo_bd bs 0 g 0 (by omega) (by decide) h
    refine ⟨this.1, ?_⟩
    have hl : bs.length ≤ 4 := by omega
    have : (16 : Int) ^ (0 + bs.length) ≤ 65536 := by
      have h4 : bs.length = 0 ∨ bs.length = 1 ∨ bs.length = 2 ∨ bs.length = 3 ∨ bs.length = 4 := by omega
      rcases h4 with e | e | e | e | e <;> rw [e] <;> decide
    omega
theorem groupsGo_bd : ∀ (ps : List (List UInt8)) (r gs : List Int), r.length ≤ 8 → (∀ g ∈ r, 0 ≤ g ∧ g ≤ 65535) → groupsGo ps r = some gs → gs.length ≤ 8 ∧ ∀ g ∈ gs, 0 ≤ g ∧ g ≤ 65535
  | [], r, gs, hl, h, hg => by simp [groupsGo] at hg; subst hg; exact ⟨hl, h⟩
  | p :: ps, r, gs, hl, h, hg => by
    simp only [groupsGo] at hg
    cases hp : grpV p with
    | none => simp [hp] at hg
    | some g =>
      rw [hp] at hg
      simp only at hg
      split at hg
      · cases hg
      · refine groupsGo_bd ps _ gs (by simp; omega) (fun x hx => ?_) hg
        rcases List.mem_append.1 hx with h1 | h1
        · exact h x h1
        · simp at h1; subst h1; exact grpV_bd hp
theorem groupsV_bd {s : List UInt8} {gs : List Int} (h : groupsV s = some gs) : gs.length ≤ 8 ∧ ∀ g ∈ gs, 0 ≤ g ∧ g ≤ 65535 := by
  unfold groupsV at h
  split at h
  · simp at h; subst h; simp
  · exact groupsGo_bd _ [] gs (by simp) (by simp) h

/-- byte j of a list of groups -/
def byteOf (f : List Int) (j : Nat) : Int := if j % 2 = 0 then f.getD (j / 2) 0 / 256 else f.getD (j / 2) 0 % 256
/-- the address after i groups of the second list -/
def rowB (f l : List Int) (i : Nat) : List Int := (List.range 16).map fun j => if j < 2 * f.length then byteOf f j else if 16 - 2 * l.length ≤ j ∧ j < 16 - 2 * l.length + 2 * i then byteOf l (j - (16 - 2 * l.length)) else 0
def rowA (f : List Int) (i : Nat) : List Int := (List.range 16).map fun j => if j < 2 * i then byteOf f j else 0
def badN (short : Bool) (n : Nat) : Prop := (short = true ∧ 7 < n) ∨ (short = false ∧ n ≠ 8)
instance (short : Bool) (n : Nat) : Decidable (badN short n) := by unfold badN; infer_instance
/-- ParseIP -/
def parseIPV (s : List UInt8) : Option (List Int) :=
  match groupsV (Lib.cut s [58, 58]).1 with
  | none => none
  | some f => match groupsV (Lib.cut s [58, 58]).2.1 with
    | none => none
    | some l => if badN (Lib.cut s [58, 58]).2.2 (f.length + l.length) then none else some (rowB f l l.length)

theorem ipC_set (L : List Int) (i : Nat) (x : Int) : ipC (L.set i x) = (ipC L).set i (.int .u8 x) := by simp [ipC, List.map_set]
theorem length_ipC (L : List Int) : (ipC L).length = L.length := by simp [ipC]
theorem rowA_step {f : List Int} {i : Nat} (hi : 2 * i + 1 < 16) : ((rowA f i).set (2 * i) (byteOf f (2 * i))).set (2 * i + 1) (byteOf f (2 * i + 1)) = rowA f (i + 1) := by
  apply List.ext_getElem
  · simp [rowA]
  · intro j h1 h2
    simp only [rowA, List.getElem_set, List.getElem_map, List.getElem_range]
    by_cases e1 : 2 * i + 1 = j
    · subst e1; rw [if_pos rfl, if_pos (by omega)]
    · by_cases e2 : 2 * i = j
      · subst e2; rw [if_neg e1, if_pos rfl, if_pos (by omega)]
      · simp only [e1, e2, if_false]
        by_cases e3 : j < 2 * i
        · rw [if_pos e3, if_pos (by omega)]
        · rw [if_neg e3, if_neg (by omega)]
theorem rowA_B (f l : List Int) : rowA f f.length = rowB f l 0 := by
  simp only [rowA, rowB]
  apply List.map_congr_left
  intro j _
  by_cases e : j < 2 * f.length
  · rw [if_pos e, if_pos e]
  · rw [if_neg e, if_neg e, if_neg (by omega)]
theorem rowB_step {f l : List Int} {i : Nat} (hn : f.length + l.length ≤ 8) (hi : i < l.length) : ((rowB f l i).set (16 - 2 * l.length + 2 * i) (byteOf l (2 * i))).set (16 - 2 * l.length + 2 * i + 1) (byteOf l (2 * i + 1)) = rowB f l (i + 1) := by
  apply List.ext_getElem
  · simp [rowB]
  · intro j h1 h2
    simp only [rowB, List.getElem_set, List.getElem_map, List.getElem_range]
    by_cases e1 : 16 - 2 * l.length + 2 * i + 1 = j
    · subst e1
      rw [if_pos rfl, if_neg (by omega), if_pos (by omega)]
      congr 1; omega
    · by_cases e2 : 16 - 2 * l.length + 2 * i = j
      · subst e2
        rw [if_neg e1, if_pos rfl, if_neg (by omega), if_pos (by omega)]
        congr 1; omega
      · rw [if_neg e1, if_neg e2]
        by_cases e3 : j < 2 * f.length
        · rw [if_pos e3, if_pos e3]
        · rw [if_neg e3, if_neg e3]
          by_cases e4 : 16 - 2 * l.length ≤ j ∧ j < 16 - 2 * l.length + 2 * i
          · rw [if_pos e4, if_pos (by omega)]
          · rw [if_neg e4, if_neg (by omega)]
theorem hiB {g : Int} (h0 : 0 ≤ g) (h1 : g ≤ 65535) : IntKind.u8.wrap (Int.fdiv g (2 ^ min (Int.toNat 8) IntKind.u16.bits)) = g / 256 := by
  have e : Int.fdiv g (2 ^ min (Int.toNat 8) IntKind.u16.bits) = g / 256 := by
    show Int.fdiv g 256 = g / 256
    rw [Int.fdiv_eq_ediv_of_nonneg _ (by omega)]
  rw [e]; exact w_u8 (by omega) (by omega)
theorem loB {g : Int} (h0 : 0 ≤ g) : IntKind.u8.wrap g = g % 256 := by
  simp [IntKind.wrap, IntKind.signed, IntKind.bits]
theorem byteOf_even (f : List Int) (i : Nat) : byteOf f (2 * i) = f.getD i 0 / 256 := by simp [byteOf]
theorem byteOf_odd (f : List Int) (i : Nat) : byteOf f (2 * i + 1) = f.getD i 0 % 256 := by
  have h1 : (2 * i + 1) % 2 = 1 := by omega
  have h2 : (2 * i + 1) / 2 = i := by omega
  simp [byteOf, h1, h2]
end Go.Proofs.YtadnpidadcgdcaaDoor
