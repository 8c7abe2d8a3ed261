/-
  Texts joined.
-/
import Derived.Test.YtfhkmgcalcfibaaGreatFwF2
import Derived.Lib.BitFns
set_option linter.unusedVariables false
set_option linter.unusedSimpArgs false
set_option maxHeartbeats 64000000
namespace Go.Proofs.YtfhkmgcalcfibaaGreat
open Go.RowKit
section
open Go.RowKit
attribute [local irreducible] OpTo wpListIn Code.wpIn MW Cal
def ipC (a : List Int) : List Value := a.map (Value.int .u8)
def Zde (b : Int) : Int := if 128 < (if b < 0 then 0 else b) then 128 else (if b < 0 then 0 else b)
def Zcj (n i : Int) : Int := if 8 < (if n - 8 * i < 0 then 0 else n - 8 * i) then 8 else (if n - 8 * i < 0 then 0 else n - 8 * i)
def Zc9 (a : List Int) (n : Int) (i : Nat) : Int := ZbK .andNot .u8 (a.getD i 0) (Int.fdiv 255 (2 ^ min (Zcj n i).toNat 8))
def mrow (a : List Int) (n : Int) (i : Nat) : List Value := (List.range 16).map (fun j => if j < i then .int .u8 (Zc9 a n j) else .int .u8 0) ++ [.int .i64 n]
theorem Zrm {a : List Int} {i : Nat} (h : i < a.length) : nth (ipC a) (0 + (i : Int).toNat * 1) = some (.int .u8 (a.getD i 0)) := by
 rw [ZbG];simp [ipC, h]
theorem put1 {xs : List Value} {off q : Nat} (v : Value) (h : off = q) (hq : q < xs.length) : put xs off [v] = some (xs.set q v) := by
 subst h
 rw [Zit _ _ _ (by simp;omega)]
 congr 1
 have := Zge xs off v [] hq
 simp only [Zcc, List.length_nil, List.nil_append, Nat.add_zero, List.take_append_drop] at this
 exact this.symm
theorem ZpQ {a : List Int} {n : Int} {i : Nat} (h : i < 16) : put (mrow a n i) (0 + 0 + (i : Int).toNat * 1) [.int .u8 (Zc9 a n i)] = some (mrow a n (i + 1)) := by
 rw [put1 (q := i) _ (by omega) (by simp [mrow];omega)]
 congr 1
 unfold mrow
 rw [List.set_append_left _ _ (by simpa using h)]
 congr 1
 apply List.ext_getElem (by simp)
 intro j h1 h2
 simp only [List.getElem_set, List.getElem_map, List.getElem_range]
 split
 ·subst_vars;simp
 ·have : j < i ↔ j < i + 1 := by omega
  simp [this]
theorem ZtE (a : List Int) (ha : a.length = 16) (bits : Int) (W : World) :
  Cal Tryz.prog 179 [.agg (ipC a).toArray, .int .i64 bits].toArray W fun v w' => v = .agg (mrow a (Zde bits) 16).toArray ∧ Ext [] W w' := by
 obtain ⟨ip, rfl⟩ : ∃ ip, ip = a := ⟨_, rfl⟩
 refine ZbU (n := 33) [] Tryz.func179 rfl rfl rfl ?_
 intro a w F M hwW
 refine ZaB (Zaf ?_)
 (refine sD F (Zft M (F.e rfl) rfl ?_);clear F M;intro b1 w M a F)
 (refine sD F (Zdk M ?_);clear F M;intro b2 w M a F)
 with_reducible refine ZaF (Zam (ZaB (Zaf ?_)))
 refine sD F (Zaq (F.e rfl) fun a F => sD F (ZjZ (F.e rfl) (F.e rfl) fun a F => sD F (ZjY (F.e rfl) (F.e rfl) fun a F => sD F (Zaw F rfl rfl ?_))));iterate 4 clear F a
 intro a F
 (refine sD F (Zdk M ?_);clear F M;intro b3 w M a F)
 (refine ZdT rfl F (ZbV M (F.e rfl) (F.e rfl) (by rfl) (by rfl) (by repeat constructor) (by rfl) (by repeat constructor) ?_);clear F M;intro w M a F)
 with_reducible refine ZaF (Zam (ZaB (ZaB (Zaf ?_))))
 refine sD F (Zaq (F.e rfl) ?_);clear F a;intro a F
 with_reducible refine ZaF (Zam (ZbT ?_))
 refine ZgK (fun k a w => ∃ i : Nat, k = 16 - i ∧ i ≤ 16 ∧ Frm a 33 [] [(12, .int .i64 i), (5, .pointer (some ⟨b3, 0, none⟩)), (4, .pointer (some ⟨b2, 0, none⟩)), (2, .pointer (some ⟨b1, 0, none⟩))] ∧ Mem [] W w [(b3, .cells (mrow ip (Zde bits) i).toArray 65 (0, 0)), (b2, .cells #[.int .u8 0, .int .u8 0, .int .u8 0, .int .u8 0, .int .u8 0, .int .u8 0, .int .u8 0, .int .u8 0, .int .u8 0, .int .u8 0, .int .u8 0, .int .u8 0, .int .u8 0, .int .u8 0, .int .u8 0, .int .u8 0, .int .i64 0] 65 (0, 0)), (b1, .cells (ipC ip).toArray 63 (0, 0))]) 16 ⟨0, rfl, by omega, F.only [12, 5, 4, 2] rfl, M⟩ ?_
 clear F M
 have hcb : 0 ≤ Zde bits ∧ Zde bits ≤ 128 := by unfold Zde;split <;> (try split) <;> omega
 rintro k a w ⟨i, hk, hi, F, M⟩
 refine ZaB (Zaf ?_)
 refine sD F (ZkV (F.e rfl) (F.e rfl) ?_);clear F a;intro a F
 with_reducible refine ZaF (Zam (ZaB ?_))
 refine c_if F rfl (fun hc => ?_) (fun hc => ?_)
 ·replace hc := dqU hc
  have hlt : i < 16 := by omega
  with_reducible refine ZcQ (Zam (ZaB (ZbT (ZaB (Zaf ?_)))))
  refine sD F (Zaq (F.e rfl) fun a F => sD F (Zau (F.e rfl) ?_));iterate 2 clear F a
  intro a F
  with_reducible refine ZaF (Zam (ZaB (Zaf ?_)))
  refine sD F (Zay (F.e rfl) fun a F => sD F (Zbo M (F.e rfl) (by repeat constructor) (by rfl) ?_));iterate 2 clear F a
  intro a F
  refine sD F (Zaq (F.e rfl) fun a F => sD F (Zr8 (F.e rfl) (F.e rfl) (Zax (by omega) (by omega)) fun a F => sD F (Zi7 (F.e rfl) (F.e rfl) (Zax (by omega) (by omega)) fun a F => sD F (ZjZ (F.e rfl) (F.e rfl) fun a F => sD F (ZjY (F.e rfl) (F.e rfl) fun a F => sD F (Zau (F.e rfl) ?_))))));iterate 6 clear F a
  intro a F
  with_reducible refine ZaF (Zam ?_)
  replace F := F.only [6, 7, 12, 5, 4, 2] rfl
  refine Zfk 9 F (by kernel_rfl) ?_
  intro w1 hE hok
  have M1 := M.later hE
  refine mK hok rfl rfl (fun a' w' F' E' => Zaq (F'.e rfl) ⟨Ext.refl _ _, rfl⟩) (mK hok rfl rfl (fun a' w' F' E' => Zaq (F'.e rfl) ⟨Ext.refl _ _, rfl⟩) (mK hok rfl rfl (fun a' w' F' E' => Zbc (F'.e rfl) (F'.e rfl) (by omega) (by omega) ⟨Ext.refl _ _, rfl⟩) ?_))
  (refine mK hok rfl rfl (fun a' w' F' E' => Zbo (M1.later E') (F'.e rfl) (by repeat constructor) (Zrm (a := ip) (i := i) (by omega)) ⟨Ext.refl _ _, rfl⟩) ?_)
  refine mK hok rfl rfl (fun a' w' F' E' => Zaq (F'.e rfl) ⟨Ext.refl _ _, rfl⟩) (mK hok rfl rfl (fun a' w' F' E' => Zr6 (F'.e rfl) (F'.e rfl) (by omega) rfl ⟨Ext.refl _ _, rfl⟩) (mK hok rfl rfl (fun a' w' F' E' => ZlN (F'.e rfl) (F'.e rfl) rfl ⟨Ext.refl _ _, rfl⟩) (mK hok rfl rfl (fun a' w' F' E' => Zay (F'.e rfl) ⟨Ext.refl _ _, rfl⟩) (mK hok rfl rfl (fun a' w' F' E' => Zbc (F'.e rfl) (F'.e rfl) (by omega) (by omega) ⟨Ext.refl _ _, rfl⟩) ?_))))
  (refine Zgp rfl rfl ?_;clear F M;intro a w F hE2 hX hTT hDD hPP;have M := M1.later hE2;clear M1;clear hX;clear hE2;clear hok;clear hE;clear hTT;clear hDD;clear hPP;(try dsimp only at F))
  (refine ZdT rfl F (Zfb M (F.e rfl) (F.e rfl) rfl (by repeat constructor) (ZpQ hlt) (by repeat constructor) ?_);clear F M;intro w M a F)
  with_reducible refine ZaF (Zmy (Zam (Zaf ?_)))
  refine sD F (ZgN (F.e rfl) (F.e rfl) (Zax (by omega) (by omega)) fun a F => sD F (Zaq (F.e rfl) ?_));iterate 2 clear F a
  intro a F
  with_reducible refine ZaF (Zam ?_)
  exact ⟨_, by omega, i + 1, rfl, by omega, F.only [12, 5, 4, 2] rfl, M⟩
 ·replace hc := dqV hc
  obtain rfl : i = 16 := by omega
  with_reducible refine Zf6 (ZcM (ZcM (ZgD (Zam (ZaB (Zaf ?_))))))
  refine sD F (Zc0 M (F.e rfl) (by repeat constructor) (by rfl) ?_);clear F a;intro a F
  (refine ZdT rfl F (ZbV M (F.e rfl) (F.e rfl) (by rfl) (by rfl) (by repeat constructor) (by rfl) (by repeat constructor) ?_);clear F M;intro w M a F)
  with_reducible refine ZaF (Zam (Zb6 ?_))
  refine Zb3 (F.only [4] rfl) rfl (.cons (.cell (F.e rfl) (ZaP TAgg.h (M.heap (.there .here)) rfl)) .nil) ⟨rfl, M.ext⟩
end
section
open Go.RowKit
attribute [local irreducible] OpTo wpListIn Code.wpIn MW Cal
def GM (W : World) : Prop := ∃ m : Int, W.cell? ⟨0, 0, none⟩ = some (.int .i64 m)
theorem GM.later {W w : World} (h : GM W) (e : Ext [] W w) : GM w := by
 obtain ⟨m, hm⟩ := h
 have hlt : 0 < W.heap.size := by
  have := block_lt_of_cell hm
  simpa using this
 exact ⟨m, by rw [World.cell?_of_block (w := W) (e.block 0 hlt (by simp))];exact hm⟩
theorem Zsm (L : List Int) (i : Nat) (x : Int) : ipC (L.set i x) = (ipC L).set i (.int .u8 x) := by simp [ipC, List.map_set]
end
section
open Go.RowKit
attribute [local irreducible] OpTo wpListIn Code.wpIn MW Cal
structure IsIP (ip : List Int) : Prop where
 len : ip.length = 16
 bd : ∀ x ∈ ip, 0 ≤ x ∧ x < 256
theorem IsIP.at_ {ip : List Int} (h : IsIP ip) (i : Nat) : 0 ≤ ip.getD i 0 ∧ ip.getD i 0 < 256 := by
 rcases Nat.lt_or_ge i ip.length with hl | hl
 ·rw [List.getD_eq_getElem?_getD, List.getElem?_eq_getElem hl];exact h.bd _ (List.getElem_mem hl)
 ·rw [List.getD_eq_getElem?_getD, List.getElem?_eq_none hl];simp
theorem ZkW {ip : List Int} (h : IsIP ip) {i n : Nat} (hi : i < 16) (hn : n = i) : nth (ipC ip) n = some (.int .u8 (ip.getD i 0)) := by
 subst hn
 have := h.len
 rw [ZbG];simp [ipC, List.getElem?_eq_getElem (show n < ip.length by omega)]
end
section
open Go.RowKit
attribute [local irreducible] OpTo wpListIn Code.wpIn MW Cal
def GT (W : World) : Prop := W.cell? ⟨5, 15, none⟩ = some (.int .u8 4)
theorem ZmZ {W w : World} {a : Addr} {v : Value} (h : W.cell? a = some v) (e : Ext [] W w) : w.cell? a = some v := by
 have hlt := block_lt_of_cell h
 rw [World.cell?_of_block (w := W) (e.block a.block hlt (by simp))];exact h
theorem GT.later {W w : World} (h : GT W) (e : Ext [] W w) : GT w := ZmZ h e
end
section
open Go.RowKit
attribute [local irreducible] OpTo wpListIn Code.wpIn MW Cal
theorem ZaC {l : List Int} (h : l.length = 16) : ∃ x0 x1 x2 x3 x4 x5 x6 x7 x8 x9 x10 x11 x12 x13 x14 x15 : Int, l = [x0, x1, x2, x3, x4, x5, x6, x7, x8, x9, x10, x11, x12, x13, x14, x15] :=
 match l, h with
 | [x0, x1, x2, x3, x4, x5, x6, x7, x8, x9, x10, x11, x12, x13, x14, x15], _ => ⟨x0, x1, x2, x3, x4, x5, x6, x7, x8, x9, x10, x11, x12, x13, x14, x15, rfl⟩
def ZbH (a : List Int) (n : Int) : List Int := (List.range 16).map (Zc9 a n)
def pfC (a : List Int) (n : Int) : List Value := ipC a ++ [.int .i64 n]
def ZbO (a : List Int) (n : Int) : Bool := decide (0 ≤ n) && decide (n ≤ 128) && (ZbH a n == a)
def Zbu (p : List Int) (n : Int) (a : List Int) : Bool := ZbO p n && (ZbH a n == p)
def Zlf (p : List Int) (n : Int) (q : List Int) (m : Int) : Bool := ZbO q m && Zbu p n q && decide (n ≤ m)
theorem Zbs (a : List Int) (n : Int) : (ZbH a n).length = 16 := by simp [ZbH]
theorem Zse (a : List Int) (n : Int) : mrow a n 16 = pfC (ZbH a n) n := by
 unfold mrow pfC ZbH ipC
 rw [List.map_map]
 congr 1
theorem ZoM : ∀ a b : List Int, a.length = b.length → eqVs (ipC a) (ipC b) = (a == b)
 | [], [], _ => rfl
 | x :: a, y :: b, h => by
  have := ZoM a b (by simpa using h)
  simp only [ipC] at this
  simp [ipC, eqVs, eqV, this]
theorem ZhD {a b : List Int} {n m : Int} (h : a.length = b.length) : eqVs (pfC a n) (pfC b m) = (a == b && n == m) := by
 unfold pfC
 rw [Zc2 _ _ _ _ (by simp [ipC, h]), ZoM a b h]
 simp [eqVs, eqV]
def modI (a n : Int) : Int := if a.tmod n < 0 then a.tmod n + n else a.tmod n
theorem Zg4 {n : Int} (h0 : 0 ≤ n) (h1 : n ≤ 128) : Zde n = n := by unfold Zde;rw [if_neg (show ¬ n < 0 by omega), if_neg (by omega)]
theorem Zod (a : List Int) (ha : a.length = 16) (n : Int) (W : World) : Cal Tryz.prog 179 [.agg (ipC a).toArray, .int .i64 n].toArray W fun v w' => v = .agg (pfC (ZbH a (Zde n)) (Zde n)).toArray ∧ Ext [] W w' :=
 (ZtE a ha n W).mono fun v w' h => ⟨by rw [h.1, Zse], h.2⟩
def pfK : List LK := [.i .u8, .i .u8, .i .u8, .i .u8, .i .u8, .i .u8, .i .u8, .i .u8, .i .u8, .i .u8, .i .u8, .i .u8, .i .u8, .i .u8, .i .u8, .i .u8, .i .i64]
theorem Zdm {a : List Int} (ha : a.length = 16) (n : Int) : Za7 pfK (pfC a n) = true := by
 obtain ⟨x0, x1, x2, x3, x4, x5, x6, x7, x8, x9, x10, x11, x12, x13, x14, x15, rfl⟩ := ZaC ha
 rfl
theorem Zbw {xs : List Value} {k : Nat} (h : xs.length = k) : seg xs 0 k = some xs := by
 have h1 := Zhf [] xs []
 rw [h] at h1
 simpa using h1
theorem ZeP {a : List Int} (ha : a.length = 16) (n : Int) : (pfC a n).length = 17 := by simp [pfC, ipC, ha]
theorem ZaU {a : List Int} (ha : a.length = 16) : (ipC a).length = 16 := by simp [ipC, ha]
theorem ZjK {a : List Int} (ha : a.length = 16) (n : Int) : seg (pfC a n) 0 17 = some (pfC a n) := Zbw (ZeP ha n)
theorem Zgf {a : List Int} (ha : a.length = 16) (n : Int) : seg (pfC a n) 0 16 = some (ipC a) := by
 have h1 := Zhf [] (ipC a) [.int .i64 n]
 rw [ZaU ha] at h1
 simpa [pfC] using h1
theorem Ziw {a : List Int} (ha : a.length = 16) (n : Int) : nth (pfC a n) 16 = some (.int .i64 n) := by
 rw [ZbG];simp [pfC, ipC, ha]
theorem Zb2 (p : List Int) (n : Int) (hp : p.length = 16) (W : World) : Cal Tryz.prog 84 [.agg (pfC p n).toArray].toArray W fun v w' => v = .bool (ZbO p n) ∧ Ext [] W w' := by
 have e1 := ZjK hp n
 have e2 := Zgf hp n
 have e3 := Ziw hp n
 have e4 := Zdm hp n
 have e5 := Zdm (Zbs p n) n
 have q1 := ZhD (n := n) (m := n) (show (ZbH p n).length = p.length by rw [Zbs, hp])
 refine Zao (n := 20) (S := []) Zal Zak Tryz.func84 rfl rfl rfl ?_
 by_cases h0 : 0 ≤ n
 ·by_cases h1 : n ≤ 128
  ·have hcl := Zg4 h0 h1
   refine gR 2 rfl (ZaA rfl rfl fun b1 => gR 4 rfl (ZaG 18 20 rfl (by kernel_rfl) (fR 1 rfl (ZaW 0 rfl rfl (by with_reducible assumption) ?_))))
   refine fR 2 rfl (ZaX 6 rfl (dqT (by omega)) (fR 1 rfl (ZaW 0 rfl rfl (by with_reducible assumption) ?_)))
   refine fR 3 rfl (ZaX 11 rfl (dqT (by omega)) (fR 1 rfl (ZaN 0 rfl rfl (by with_reducible assumption) ?_)))
   refine fR 1 rfl (ZaW 0 rfl rfl (by with_reducible assumption) ?_)
   refine ZaH rfl rfl (fun w M => Zod _ ‹_› _ _) ?_
   refine ZaN 0 rfl rfl (by with_reducible assumption) ?_
   refine fd_v (fun a w F M R r => Zj3 (F.e rfl) (F.e rfl) ‹_› ‹_› r) ?_
   refine fR 2 rfl (Zap rfl rfl (gR 3 rfl (Zab rfl rfl rfl fun w M => ?_)))
   exact ⟨by rw [hcl, q1];simp [ZbO, h0, h1], M.ext⟩
  ·refine gR 2 rfl ?_
   refine ZaA rfl rfl fun b1 => gR 4 rfl (ZaG 18 20 rfl (by kernel_rfl) (fR 1 rfl (ZaW 0 rfl rfl (by with_reducible assumption) ?_)))
   refine fR 2 rfl (ZaX 6 rfl (dqT (by omega)) (fR 1 rfl (ZaW 0 rfl rfl (by with_reducible assumption) ?_)))
   refine fR 3 rfl (ZaX 11 rfl (dqF (by omega)) (fR 9 rfl (Zap rfl rfl (gR 3 rfl (Zab rfl rfl rfl fun w M => ?_)))))
   exact ⟨by show Value.bool _ = Value.bool _;simp [ZbO, h1], M.ext⟩
 ·refine gR 2 rfl ?_
  refine ZaA rfl rfl fun b1 => gR 4 rfl (ZaG 18 20 rfl (by kernel_rfl) (fR 1 rfl (ZaW 0 rfl rfl (by with_reducible assumption) ?_)))
  refine fR 2 rfl (ZaX 6 rfl (dqF (by omega)) (fR 14 rfl (Zap rfl rfl (gR 3 rfl (Zab rfl rfl rfl fun w M => ?_)))))
  exact ⟨by show Value.bool _ = Value.bool _;simp [ZbO, h0], M.ext⟩
end
section
open Go.RowKit
attribute [local irreducible] OpTo wpListIn Code.wpIn MW Cal
theorem ZjD {a : List Int} {n : Int} (h : ZbO a n = true) : 0 ≤ n ∧ n ≤ 128 := by
 simp only [ZbO, Bool.and_eq_true, decide_eq_true_eq] at h
 exact h.1
theorem Zc3 (p : List Int) (n : Int) (hp : p.length = 16) (b : List Int) (hb : b.length = 16) (W : World) : Cal Tryz.prog 127 [.agg (pfC p n).toArray, .agg (ipC b).toArray].toArray W fun v w' => v = .bool (Zbu p n b) ∧ Ext [] W w' := by
 have e1 := ZjK hp n
 have e2 := Zgf hp n
 have e3 := Ziw hp n
 have e4 := Zdm hp n
 have e5 := Zdm (Zbs b n) n
 have e6 := Zbw (ZaU hb)
 have q1 := ZhD (n := n) (m := n) (show (ZbH b n).length = p.length by rw [Zbs, hp])
 refine Zao (n := 15) (S := []) Zal Zak Tryz.func127 rfl rfl rfl ?_
 cases hv : ZbO p n
 ·refine gR 2 rfl ?_
  refine ZaA rfl rfl fun b2 => ZaA rfl rfl fun b3 => gR 4 rfl (ZaG 11 15 rfl (by kernel_rfl) (ZaN 1 rfl rfl (by with_reducible assumption) ?_))
  refine ZaH rfl rfl (fun w M => Zb2 _ _ ‹_› _) ?_
  refine fR 1 rfl (ZaX 7 rfl ‹_› ?_)
  refine fR 8 rfl (Zap rfl rfl (gR 3 rfl (Zab rfl rfl rfl fun w M => ?_)))
  exact ⟨by show Value.bool _ = Value.bool _;simp [Zbu, hv], M.ext⟩
 ·obtain ⟨h0, h1⟩ := ZjD hv
  have hcl := Zg4 h0 h1
  refine gR 2 rfl (ZaA rfl rfl fun b2 => ZaA rfl rfl fun b3 => gR 4 rfl (ZaG 11 15 rfl (by kernel_rfl) (ZaN 1 rfl rfl (by with_reducible assumption) ?_)))
  refine ZaH rfl rfl (fun w M => Zb2 _ _ ‹_› _) ?_
  refine fR 1 rfl (ZaX 7 rfl ‹_› ?_)
  refine ZaN 0 rfl rfl (by with_reducible assumption) ?_
  refine fR 1 rfl (ZaW 1 rfl rfl (by with_reducible assumption) ?_)
  refine ZaH rfl rfl (fun w M => Zod _ ‹_› _ _) ?_
  refine ZaN 1 rfl rfl (by with_reducible assumption) ?_
  refine fd_v (fun a w F M R r => Zj3 (F.e rfl) (F.e rfl) ‹_› ‹_› r) ?_
  refine fR 2 rfl (Zap rfl rfl (gR 3 rfl (Zab rfl rfl rfl fun w M => ?_)))
  exact ⟨by rw [hcl, q1];simp [Zbu, hv], M.ext⟩
end
section
open Go.RowKit
attribute [local irreducible] OpTo wpListIn Code.wpIn MW Cal
def Zf9 (a b : List Int) (i : Nat) : Int := ZbK .xor .u8 (a.getD i 0) (b.getD i 0)
def Zcq (a b : List Int) : Nat → Int
 | 0 => 128
 | k + 1 => if Zf9 a b (15 - k) ≠ 0 then 8 * ((15 - k : Nat) : Int) + (8 - (Lib.bitLen (Zf9 a b (15 - k)).toNat : Int)) else Zcq a b k
def Zdn (a b : List Int) : Int := Zcq a b 16
theorem Zna {a b : List Int} (ha : IsIP a) (hb : IsIP b) (i : Nat) : 0 ≤ Zf9 a b i ∧ Zf9 a b i ≤ 255 := by
 have h1 := ha.at_ i
 have h2 := hb.at_ i
 unfold Zf9
 obtain ⟨m, hm⟩ := Int.eq_ofNat_of_zero_le h1.1
 obtain ⟨n, hn⟩ := Int.eq_ofNat_of_zero_le h2.1
 rw [hm, hn, Zjx (k := .u8) rfl (show m < 256 by omega) (show n < 256 by omega)]
 have : m ^^^ n < 2 ^ 8 := Nat.xor_lt_two_pow (show m < 2 ^ 8 by omega) (show n < 2 ^ 8 by omega)
 omega
theorem bitLen_le8 {x : Int} (h0 : 0 ≤ x) (h1 : x ≤ 255) : 0 ≤ 8 - (Lib.bitLen x.toNat : Int) ∧ 8 - (Lib.bitLen x.toNat : Int) ≤ 8 := by
 have := Lib.bitLen_le8 ⟨x.toNat, by omega⟩
 dsimp only at this
 omega
end
section
open Go.RowKit
theorem ZfO (a : List Int) : (ipC a).all (·.oneCell') = true := by
 rw [List.all_eq_true]
 intro v hv
 obtain ⟨x, _, rfl⟩ := List.mem_map.1 hv
 rfl
theorem ZlI (a : List Int) (n : Int) : (pfC a n).all (·.oneCell') = true := by
 unfold pfC
 rw [List.all_append, ZfO]
 rfl
theorem Zsg (x : Int) {n : Int} (hn : 0 < n) : 0 ≤ modI x n ∧ modI x n < n := by
 have h1 := Int.tmod_lt_of_pos x hn
 have h2 : -n < x.tmod n := by have := Int.tmod_lt_of_pos (-x) hn;rw [Int.neg_tmod] at this;omega
 unfold modI
 split <;> omega
end
section
open Go.RowKit
def cutB (x : Int) (k : Nat) : Int := ZbK .andNot .u8 x (Int.fdiv 255 (2 ^ min k 8))
theorem ZqO : ∀ x : Fin 256, ∀ k : Fin 9, cutB (x.1 : Int) k.1 = ((x.1 / 2 ^ (8 - k.1) * 2 ^ (8 - k.1) : Nat) : Int) := by decide +kernel
theorem Zeq {x k : Nat} (hx : x < 256) (hk : k ≤ 8) : cutB (x : Int) k = ((x / 2 ^ (8 - k) * 2 ^ (8 - k) : Nat) : Int) := ZqO ⟨x, hx⟩ ⟨k, by omega⟩
theorem Zqd : ∀ x : Fin 256, ∀ k j : Fin 9, (x.1 / 2 ^ (8 - k.1) * 2 ^ (8 - k.1)) / 2 ^ (8 - j.1) * 2 ^ (8 - j.1) = x.1 / 2 ^ (8 - min j.1 k.1) * 2 ^ (8 - min j.1 k.1) := by decide +kernel
theorem Zsj : ∀ x : Fin 256, ∀ k : Fin 9, (x.1 / 2 ^ (8 - k.1) = 0) ↔ Lib.bitLen x.1 ≤ 8 - k.1 := by decide +kernel
theorem ZiQ : ∀ x : Fin 256, Lib.bitLen x.1 ≤ 8 ∧ (Lib.bitLen x.1 = 0 ↔ x.1 = 0) := by decide +kernel
theorem ZsC {x : Int} {k : Nat} (h0 : 0 ≤ x) (h1 : x < 256) (hk : k ≤ 8) : 0 ≤ cutB x k ∧ cutB x k < 256 := by
 obtain ⟨n, rfl⟩ := Int.eq_ofNat_of_zero_le h0
 rw [Zeq (by omega) hk]
 have := Nat.div_mul_le_self n (2 ^ (8 - k))
 omega
theorem ZoW {x : Int} {k j : Nat} (h0 : 0 ≤ x) (h1 : x < 256) (hk : k ≤ 8) (hj : j ≤ 8) : cutB (cutB x k) j = cutB x (min j k) := by
 obtain ⟨n, rfl⟩ := Int.eq_ofNat_of_zero_le h0
 have hn : n < 256 := by omega
 have := Nat.div_mul_le_self n (2 ^ (8 - k))
 rw [Zeq hn hk, Zeq (by omega) hj, Zeq hn (by omega), Zqd ⟨n, hn⟩ ⟨k, by omega⟩ ⟨j, by omega⟩]
theorem ZoX {x y : Int} {k : Nat} (h0 : 0 ≤ x) (h1 : x < 256) (g0 : 0 ≤ y) (g1 : y < 256) (hk : k ≤ 8) : (cutB x k = cutB y k) ↔ Lib.bitLen (ZbK .xor .u8 y x).toNat ≤ 8 - k := by
 obtain ⟨n, rfl⟩ := Int.eq_ofNat_of_zero_le h0
 obtain ⟨m, rfl⟩ := Int.eq_ofNat_of_zero_le g0
 have hn : n < 256 := by omega
 have hm : m < 256 := by omega
 rw [Zeq hn hk, Zeq hm hk, Zjx (k := .u8) rfl (show m < 2 ^ 8 by omega) (show n < 2 ^ 8 by omega), Int.toNat_natCast]
 have hx : m ^^^ n < 256 := Nat.xor_lt_two_pow (n := 8) hm hn
 rw [← Zsj ⟨m ^^^ n, hx⟩ ⟨k, by omega⟩]
 simp only
 rw [Nat.xor_div_two_pow]
 have hp : 0 < 2 ^ (8 - k) := Nat.two_pow_pos _
 constructor
 ·intro h
  have h' : n / 2 ^ (8 - k) * 2 ^ (8 - k) = m / 2 ^ (8 - k) * 2 ^ (8 - k) := by exact_mod_cast h
  rw [Nat.eq_of_mul_eq_mul_right hp h']
  exact Nat.xor_self _
 ·intro h
  have : m / 2 ^ (8 - k) = n / 2 ^ (8 - k) := by
   have h2 := congrArg (· ^^^ (n / 2 ^ (8 - k))) h
   simpa [Nat.xor_assoc] using h2
  rw [this]
theorem Zem (n i : Int) : (Zcj n i).toNat ≤ 8 := by unfold Zcj;split <;> (try split) <;> omega
theorem Zco (a : List Int) (n : Int) (i : Nat) : Zc9 a n i = cutB (a.getD i 0) (Zcj n i).toNat := rfl
theorem ZlS (a : List Int) (n : Int) {i : Nat} (h : i < 16) : (ZbH a n).getD i 0 = Zc9 a n i := by simp [ZbH, h]
theorem Zj7 {a b : List Int} {n m : Int} : ZbH a n = ZbH b m ↔ ∀ i, i < 16 → Zc9 a n i = Zc9 b m i := by
 unfold ZbH
 constructor
 ·intro h i hi
  have := congrArg (fun l => l.getD i 0) h
  simpa [hi] using this
 ·intro h
  exact List.map_congr_left fun i hi => h i (List.mem_range.1 hi)
def minI (m n : Int) : Int := if n < m then n else m
theorem Zqv (m n i : Int) : min (Zcj m i).toNat (Zcj n i).toNat = (Zcj (minI m n) i).toNat := by
 unfold minI Zcj
 split <;> split <;> split <;> (try split) <;> (try split) <;> omega
theorem Zoc {p : List Int} (hp : IsIP p) (m n : Int) : ZbH (ZbH p n) m = ZbH p (minI m n) := by
 rw [Zj7]
 intro i hi
 rw [Zco, ZlS _ _ hi, Zco, Zco, ZoW (hp.at_ i).1 (hp.at_ i).2 (Zem _ _) (Zem _ _), Zqv]
theorem Zj6 {p : List Int} (hp : IsIP p) (n : Int) : IsIP (ZbH p n) := by
 refine ⟨Zbs p n, fun x hx => ?_⟩
 unfold ZbH at hx
 obtain ⟨i, _, rfl⟩ := List.mem_map.1 hx
 exact ZsC (hp.at_ i).1 (hp.at_ i).2 (Zem _ _)
theorem Zn5 (m : Int) : minI m m = m := by unfold minI;split <;> rfl
theorem Zgb {p : List Int} (hp : IsIP p) {m : Int} (h0 : 0 ≤ m) (h1 : m ≤ 128) : ZbO (ZbH p m) m = true := by
 simp [ZbO, h0, h1, Zoc hp, Zn5]
theorem Zgx {p q : List Int} (hp : IsIP p) (hq : IsIP q) {m : Int} (h0 : 0 ≤ m) (h1 : m ≤ 128) : ∀ k, k ≤ 16 → ((m ≤ Zcq p q k) ↔ ∀ i, 16 - k ≤ i → i < 16 → Lib.bitLen (Zf9 p q i).toNat ≤ 8 - (Zcj m i).toNat)
 | 0, _ => by
  simp only [Zcq]
  exact ⟨fun _ i h h' => by omega, fun _ => h1⟩
 | k + 1, hk => by
  have ih := Zgx hp hq h0 h1 k (by omega)
  have hx := Zna hp hq (15 - k)
  have hbl := ZiQ ⟨(Zf9 p q (15 - k)).toNat, by omega⟩
  simp only at hbl
  simp only [Zcq]
  split
  ·rename_i hne
   have hne' : Lib.bitLen (Zf9 p q (15 - k)).toNat ≠ 0 := fun h => hne (by have := hbl.2.1 h;omega)
   constructor
   ·intro h i hi hi'
    by_cases e : i = 15 - k
    ·subst e
     unfold Zcj
     split <;> (try split) <;> omega
    ·have : Zcj m i = 0 := by unfold Zcj;split <;> (try split) <;> omega
     have hb := ZiQ ⟨(Zf9 p q i).toNat, by have := Zna hp hq i;omega⟩
     simp only at hb
     rw [this]
     exact hb.1
   ·intro h
    have := h (15 - k) (by omega) (by omega)
    unfold Zcj at this
    split at this <;> (try split at this) <;> omega
  ·rename_i he
   have he' : Zf9 p q (15 - k) = 0 := Classical.byContradiction he
   rw [ih]
   constructor
   ·intro h i hi hi'
    by_cases e : i = 15 - k
    ·subst e
     rw [he']
     exact Nat.zero_le _
    ·exact h i (by omega) hi'
   ·intro h i hi hi'
    exact h i (by omega) hi'
theorem ZhF {p q : List Int} (hp : IsIP p) (hq : IsIP q) {m : Int} (h0 : 0 ≤ m) (h1 : m ≤ 128) : Zbu (ZbH p m) m q = decide (m ≤ Zdn p q) := by
 unfold Zbu
 rw [Zgb hp h0 h1, Bool.true_and]
 have : (ZbH q m = ZbH p m) ↔ (m ≤ Zdn p q) := by
  unfold Zdn
  rw [Zgx hp hq h0 h1 16 (Nat.le_refl _), Zj7]
  constructor
  ·intro h i _ hi
   exact (ZoX (hq.at_ i).1 (hq.at_ i).2 (hp.at_ i).1 (hp.at_ i).2 (Zem _ _)).1 (h i hi)
  ·intro h i hi
   exact (ZoX (hq.at_ i).1 (hq.at_ i).2 (hp.at_ i).1 (hp.at_ i).2 (Zem _ _)).2 (h i (by omega) hi)
 by_cases h : m ≤ Zdn p q
 ·rw [dqT h, beq_iff_eq];exact this.2 h
 ·rw [dqF h, beq_eq_false_iff_ne];exact fun he => h (this.1 he)
end
section
open Go.RowKit
attribute [local irreducible] OpTo wpListIn Code.wpIn MW Cal
end
section
open Go.RowKit
attribute [local irreducible] OpTo wpListIn Code.wpIn MW Cal
end
section
open Go.RowKit
attribute [local irreducible] OpTo wpListIn Code.wpIn MW Cal
def Zm8 : List Int := [0, 0, 0, 0, 0, 0, 0, 0, 0, 0, 0, 0, 0, 0, 0, 0]
end
section
open Go.RowKit
attribute [local irreducible] OpTo wpListIn Code.wpIn MW Cal
end
section
open Go.RowKit
attribute [local irreducible] OpTo wpListIn Code.wpIn MW Cal
theorem Mem.less {S S' : List Nat} {W w : World} {l new : List (Nat × Obj)} (M : Mem S W w l) (h : ∀ k ∈ S, k ∈ S' ∨ ∃ o, Has l k o ∧ W.heap[k]? = some o) (hs : new.Sublist l) (hn : ∀ p ∈ new, p.1 ∈ S → p.1 ∈ S') : Mem S' W w new :=
 ⟨⟨M.ext.os, M.ext.tape, M.ext.output, M.ext.size, M.ext.dr, fun k hk hS' => by
  by_cases hS : k ∈ S
  ·rcases h k hS with h1 | ⟨o, h1, h2⟩
   ·exact absurd h1 hS'
   ·rw [M.heap h1, h2]
  ·exact M.ext.block k hk hS⟩, fun p hp => M.at_ p (hs.subset hp), M.nd.sublist (hs.map _), fun p hp => (M.own p (hs.subset hp)).imp_left (hn p hp)⟩
def tobj (p : Option Addr) (len cap k : Nat) : Obj := .cells [.slice p len cap, .int .i64 k].toArray 113 (0, 0)
def i64C (xs : List Int) : List Value := xs.map (Value.int .i64)
structure ZcG (W : World) (bt : Nat) (p : Option Addr) (len : Nat) (xs : List Int) : Prop where
 lenE : xs.length = len
 small : len ≤ 400
 bd : ∀ x ∈ xs, -9223372036854775808 ≤ x ∧ x ≤ 9223372036854775807
 mem : 0 < len → ∃ b o cs t fz, p = some ⟨b, o, none⟩ ∧ b ≠ bt ∧ W.heap[b]? = some (.cells cs t fz) ∧ seg cs.toList o len = some (i64C xs)
theorem ZcG.later {W w : World} {bt : Nat} {p : Option Addr} {len : Nat} {xs : List Int} (h : ZcG W bt p len xs) (E : Ext [bt] W w) : ZcG w bt p len xs :=
 ⟨h.lenE, h.small, h.bd, fun hl => by
  obtain ⟨b, o, cs, t, fz, h1, h2, h3, h4⟩ := h.mem hl
  exact ⟨b, o, cs, t, fz, h1, h2, by rw [E.block b (Array.getElem?_eq_some_iff.1 h3).1 (by simpa using h2)];exact h3, h4⟩⟩
def nxV (xs : List Int) (k : Nat) (n : Int) : Int := if k < xs.length then modI (xs.getD k 0) n else 0
def nxK (xs : List Int) (k : Nat) : Nat := if k < xs.length then k + 1 else k
theorem Zbm (xs : List Int) (k : Nat) {n : Int} (hn : 0 < n) : 0 ≤ nxV xs k n ∧ nxV xs k n < n := by
 unfold nxV
 split
 ·exact Zsg _ hn
 ·omega
theorem Zba {bt : Nat} {p : Option Addr} {len cap k : Nat} {xs : List Int} (n : Int) (hn : 0 < n) (hn2 : n ≤ 9223372036854775807) (W : World) (hT : ZcG W bt p len xs) (hb : W.heap[bt]? = some (tobj p len cap k)) :
  Cal Tryz.prog 28 [.pointer (some ⟨bt, 0, none⟩), .int .i64 n].toArray W fun v w' => v = .int .i64 (nxV xs k n) ∧ Mem [bt] W w' [(bt, tobj p len cap (nxK xs k))] := by
 have hlen := hT.lenE
 by_cases hk : k < len
 ·obtain ⟨b, o, cs, t, fz, rfl, hne, hbb, hs⟩ := hT.mem (by omega)
  have hnt : nth cs.toList (o + (k : Int).toNat * 1) = some (.int .i64 (xs.getD k 0)) := by
   obtain ⟨h1, h2⟩ := Zc5 _ _ _ _ hs
   have h3 := h2 k hk
   rw [ZbG, show o + (k : Int).toNat * 1 = o + k by omega, h3]
   have hl : k < xs.length := by omega
   simp [i64C, hl]
  have hxk := hT.bd (xs.getD k 0) (by rw [List.getD_eq_getElem?_getD, List.getElem?_eq_getElem (by omega)];exact List.getElem_mem _)
  have hr := Int.tmod_lt_of_pos (xs.getD k 0) hn
  have hr2 : -n < (xs.getD k 0).tmod n := by have := Int.tmod_lt_of_pos (-(xs.getD k 0)) hn;rw [Int.neg_tmod] at this;omega
  have hsm := hT.small
  have hv : nxV xs k n = modI (xs.getD k 0) n := by unfold nxV;rw [if_pos (by omega)]
  have hkk : nxK xs k = k + 1 := by unfold nxK;rw [if_pos (by omega)]
  rw [hv, hkk]
  unfold modI
  refine ZbU (n := 41) [bt,b] Tryz.func28 rfl rfl rfl ?_
  intro a w F M hwW
  replace M := M.came hwW hb (by simp) (by simp)
  replace M := M.came hwW (o := .cells cs.toList.toArray t fz) (by simpa using hbb) (by simp) (by simp;exact fun h => hne h.symm)
  unfold tobj at M
  refine ZaB (Zaf ?_)
  refine sD F (Zau (F.e rfl) ?_);clear F a;intro a F
  with_reducible refine ZaF (Zam (ZaB (ZaB ?_)))
  refine Zfk 10 F (by kernel_rfl) ?_
  intro w1 hE hok
  have M1 := M.later hE
  refine mK hok rfl rfl (fun a' w' F' E' => Zaq (F'.e rfl) ⟨Ext.refl _ _, rfl⟩) (mK hok rfl rfl (fun a' w' F' E' => Zcn (F'.e rfl) rfl ⟨Ext.refl _ _, rfl⟩) (mK hok rfl rfl (fun a' w' F' E' => Zay (F'.e rfl) ⟨Ext.refl _ _, rfl⟩) (mK hok rfl rfl (fun a' w' F' E' => Zbo (M1.later E') (F'.e rfl) (by repeat constructor) (by rfl) ⟨Ext.refl _ _, rfl⟩) ?_)))
  refine mK hok rfl rfl (fun a' w' F' E' => Zaq (F'.e rfl) ⟨Ext.refl _ _, rfl⟩) (mK hok rfl rfl (fun a' w' F' E' => Zcn (F'.e rfl) rfl ⟨Ext.refl _ _, rfl⟩) (mK hok rfl rfl (fun a' w' F' E' => Zay (F'.e rfl) ⟨Ext.refl _ _, rfl⟩) (mK hok rfl rfl (fun a' w' F' E' => Zbo (M1.later E') (F'.e rfl) (by repeat constructor) (by rfl) ⟨Ext.refl _ _, rfl⟩) ?_)))
  refine mK hok rfl rfl (fun a' w' F' E' => Zek (F'.e rfl) ⟨Ext.refl _ _, rfl⟩) (mK hok rfl rfl (fun a' w' F' E' => Ztz (F'.e rfl) (F'.e rfl) (by omega) ⟨Ext.refl _ _, rfl⟩) ?_)
  (refine Zgp rfl rfl ?_;clear F M;intro a w F hE2 hX hTT hDD hPP;have M := M1.later hE2;clear M1;clear hX;clear hE2;clear hok;clear hE;clear hTT;clear hDD;clear hPP;(try dsimp only at F))
  with_reducible refine ZaF (Zam ?_)
  refine Zcm F rfl rfl ?_
  with_reducible refine ZcQ (Zam (ZaB ?_))
  refine Zfk 12 F (by kernel_rfl) ?_
  intro w1 hE hok
  have M1 := M.later hE
  refine mK hok rfl rfl (fun a' w' F' E' => Zaq (F'.e rfl) ⟨Ext.refl _ _, rfl⟩) (mK hok rfl rfl (fun a' w' F' E' => Zcn (F'.e rfl) rfl ⟨Ext.refl _ _, rfl⟩) (mK hok rfl rfl (fun a' w' F' E' => Zay (F'.e rfl) ⟨Ext.refl _ _, rfl⟩) (mK hok rfl rfl (fun a' w' F' E' => Zbo (M1.later E') (F'.e rfl) (by repeat constructor) (by rfl) ⟨Ext.refl _ _, rfl⟩) ?_)))
  refine mK hok rfl rfl (fun a' w' F' E' => Zaq (F'.e rfl) ⟨Ext.refl _ _, rfl⟩) (mK hok rfl rfl (fun a' w' F' E' => Zcn (F'.e rfl) rfl ⟨Ext.refl _ _, rfl⟩) (mK hok rfl rfl (fun a' w' F' E' => Zay (F'.e rfl) ⟨Ext.refl _ _, rfl⟩) (mK hok rfl rfl (fun a' w' F' E' => Zbo (M1.later E') (F'.e rfl) (by repeat constructor) (by rfl) ⟨Ext.refl _ _, rfl⟩) ?_)))
  refine mK hok rfl rfl (fun a' w' F' E' => Zcg (F'.e rfl) (F'.e rfl) (by omega) (by omega) ⟨Ext.refl _ _, rfl⟩) (mK hok rfl rfl (fun a' w' F' E' => Zbo (M1.later E') (F'.e rfl) (by repeat constructor) ‹_› ⟨Ext.refl _ _, rfl⟩) ?_)
  refine mK hok rfl rfl (fun a' w' F' E' => Zaq (F'.e rfl) ⟨Ext.refl _ _, rfl⟩) (mK hok rfl rfl (fun a' w' F' E' => ZmD (F'.e rfl) (F'.e rfl) (by omega) rfl ⟨Ext.refl _ _, rfl⟩) ?_)
  (refine Zgp rfl rfl ?_;clear F M;intro a w F hE2 hX hTT hDD hPP;have M := M1.later hE2;clear M1;clear hX;clear hE2;clear hok;clear hE;clear hTT;clear hDD;clear hPP;(try dsimp only at F))
  refine sD F (Zau (F.e rfl) ?_);clear F a;intro a F
  with_reducible refine ZaF (Zam (ZaB (Zaf ?_)))
  refine sD F (Zaq (F.e rfl) fun a F => sD F (Zcn (F.e rfl) rfl fun a F => sD F (Zay (F.e rfl) fun a F => sD F (Zbo M (F.e rfl) (by repeat constructor) (by rfl) ?_))));iterate 4 clear F a
  intro a F
  refine sD F (ZgN (F.e rfl) (F.e rfl) (Zax (by omega) (by omega)) fun a F => sD F (Zcn (F.e rfl) rfl fun a F => sD F (Zay (F.e rfl) ?_)));iterate 3 clear F a
  intro a F
  (refine ZdT rfl F (Zfb M (F.e rfl) (F.e rfl) rfl (by repeat constructor) (by rfl) (by repeat constructor) ?_);clear F M;intro w M a F)
  with_reducible refine ZaF (Zam (ZaB (ZaB (Zaf ?_))))
  refine sD F (Zaq (F.e rfl) fun a F => sD F (ZkV (F.e rfl) (F.e rfl) ?_));iterate 2 clear F a
  intro a F
  with_reducible refine ZaF (Zam ?_)
  generalize (xs.getD k 0).tmod n = r at *
  have fin : ∀ w', Mem [bt, b] W w' [(b, .cells cs.toList.toArray t fz), (bt, .cells [.slice (some ⟨b, o, none⟩) len cap, .int .i64 ((k : Int) + 1)].toArray 113 (0, 0))] → Mem [bt] W w' [(bt, tobj (some ⟨b, o, none⟩) len cap (k + 1))] := fun w' M' =>
   M'.less (fun q hq => by
    simp only [List.mem_cons, List.not_mem_nil, or_false] at hq
    rcases hq with rfl | rfl
    ·exact .inl (by simp)
    ·exact .inr ⟨_, .here, by simpa using hbb⟩) (List.sublist_cons_self _ _) (fun q hq _ => by simp at hq;subst hq;simp)
  refine c_if F rfl (fun hc => ?_) (fun hc => ?_)
  ·replace hc := dqU hc
   rw [if_pos hc]
   refine Zaf ?_
   refine sD F (Zaq (F.e rfl) fun a F => sD F (Zaq (F.e rfl) fun a F => sD F (ZgN (F.e rfl) (F.e rfl) (Zax (by omega) (by omega)) fun a F => sD F (Zau (F.e rfl) ?_))));iterate 4 clear F a
   intro a F
   with_reducible refine ZaF (Zam (ZaB (Zaf ?_)))
   refine sD F (Zaq (F.e rfl) fun a F => sD F (Zau (F.e rfl) ?_));iterate 2 clear F a
   intro a F
   with_reducible refine ZaF (Zam (Zb6 ?_))
   exact Zb3 F rfl (.cons (.tmp (F.e rfl)) .nil) (⟨rfl, fin _ M⟩)
  ·replace hc := dqV hc
   rw [if_neg hc]
   with_reducible refine ZcQ (Zam (ZaB (Zaf ?_)))
   refine sD F (Zaq (F.e rfl) fun a F => sD F (Zau (F.e rfl) ?_));iterate 2 clear F a
   intro a F
   with_reducible refine ZaF (Zam (Zb6 ?_))
   exact Zb3 F rfl (.cons (.tmp (F.e rfl)) .nil) (⟨rfl, fin _ M⟩)
 ·have hv : nxV xs k n = 0 := by unfold nxV;rw [if_neg (by omega)]
  have hkk : nxK xs k = k := by unfold nxK;rw [if_neg (by omega)]
  rw [hv, hkk]
  refine ZbU (n := 41) [bt] Tryz.func28 rfl rfl rfl ?_
  intro a w F M hwW
  replace M := M.came hwW hb (by simp) (by simp)
  unfold tobj at M
  refine ZaB (Zaf ?_)
  refine sD F (Zau (F.e rfl) ?_);clear F a;intro a F
  with_reducible refine ZaF (Zam (ZaB (ZaB ?_)))
  refine Zfk 10 F (by kernel_rfl) ?_
  intro w1 hE hok
  have M1 := M.later hE
  refine mK hok rfl rfl (fun a' w' F' E' => Zaq (F'.e rfl) ⟨Ext.refl _ _, rfl⟩) (mK hok rfl rfl (fun a' w' F' E' => Zcn (F'.e rfl) rfl ⟨Ext.refl _ _, rfl⟩) (mK hok rfl rfl (fun a' w' F' E' => Zay (F'.e rfl) ⟨Ext.refl _ _, rfl⟩) (mK hok rfl rfl (fun a' w' F' E' => Zbo (M1.later E') (F'.e rfl) (by repeat constructor) (by rfl) ⟨Ext.refl _ _, rfl⟩) ?_)))
  refine mK hok rfl rfl (fun a' w' F' E' => Zaq (F'.e rfl) ⟨Ext.refl _ _, rfl⟩) (mK hok rfl rfl (fun a' w' F' E' => Zcn (F'.e rfl) rfl ⟨Ext.refl _ _, rfl⟩) (mK hok rfl rfl (fun a' w' F' E' => Zay (F'.e rfl) ⟨Ext.refl _ _, rfl⟩) (mK hok rfl rfl (fun a' w' F' E' => Zbo (M1.later E') (F'.e rfl) (by repeat constructor) (by rfl) ⟨Ext.refl _ _, rfl⟩) ?_)))
  refine mK hok rfl rfl (fun a' w' F' E' => Zek (F'.e rfl) ⟨Ext.refl _ _, rfl⟩) (mK hok rfl rfl (fun a' w' F' E' => Zty (F'.e rfl) (F'.e rfl) (by omega) ⟨Ext.refl _ _, rfl⟩) ?_)
  (refine Zgp rfl rfl ?_;clear F M;intro a w F hE2 hX hTT hDD hPP;have M := M1.later hE2;clear M1;clear hX;clear hE2;clear hok;clear hE;clear hTT;clear hDD;clear hPP;(try dsimp only at F))
  with_reducible refine ZaF (Zam ?_)
  refine ZcV F rfl rfl (ZaB (Zaf ?_))
  refine sD F (Zau (F.e rfl) ?_);clear F a;intro a F
  with_reducible refine ZaF (Zam (Zb6 (Zdj ?_)))
  exact Zb3 F rfl (.cons (.tmp (F.e rfl)) .nil) (⟨rfl, M⟩)
end
section
open Go.RowKit
attribute [local irreducible] OpTo wpListIn Code.wpIn MW Cal
theorem Mem.turn1 {S : List Nat} {W0 w w' : World} {l l' : List (Nat × Obj)} {b : Nat} {o o' : Obj} (M : Mem S W0 w l) (N : Mem [b] w w' [(b, o')]) (hu : Upd l b o o' l') : Mem S W0 w' l' := M.turned hu N.ext (N.heap .here)
def Zli (xs : List Int) (k : Nat) (n : Int) : Bool := nxV xs k n == n - 1
theorem Zfm {bt : Nat} {p : Option Addr} {len cap k : Nat} {xs : List Int} (n : Int) (hn : 0 < n) (hn2 : n ≤ 9223372036854775807) (W : World) (hT : ZcG W bt p len xs) (hb : W.heap[bt]? = some (tobj p len cap k)) :
  Cal Tryz.prog 14 [.pointer (some ⟨bt, 0, none⟩), .int .i64 n].toArray W fun v w' => v = .bool (Zli xs k n) ∧ Mem [bt] W w' [(bt, tobj p len cap (nxK xs k))] := by
 refine ZbU (n := 11) [bt] Tryz.func14 rfl rfl rfl ?_
 intro a w F M hwW
 replace M := M.came hwW hb (by simp) (by simp)
 refine ZaB (Zaf ?_)
 refine sD F (Zau (F.e rfl) ?_);clear F a;intro a F
 with_reducible refine ZaF (Zam (ZaB (Zaf ?_)))
 refine sD F (Zaq (F.e rfl) fun a F => sD F (Zaq (F.e rfl) ?_));iterate 2 clear F a
 intro a F
 (refine sD F (Zbh (F.e rfl) (F.evs rfl) (Cal.mono (Zba n hn hn2 _ (hT.later M.ext) (M.heap .here) ) ?_));clear F;clear a;have M0 := M;clear M;rintro _ w ⟨rfl, N⟩ a F)
 replace M := M0.turn1 N .here
 refine sD F (Zaq (F.e rfl) fun a F => sD F (Zi7 (F.e rfl) (F.e rfl) (Zax (by omega) (by omega)) fun a F => sD F (ZmG (F.e rfl) (F.e rfl) fun a F => sD F (Zau (F.e rfl) ?_))));iterate 4 clear F a
 intro a F
 with_reducible refine ZaF (Zam (Zb6 ?_))
 exact Zb3 F rfl (.cons (.tmp (F.e rfl)) .nil) (⟨rfl, M⟩)
structure ZiV (W : World) (v : Value) (xs : List Int) : Prop where
 ex : ∃ p cap, v = .slice p xs.length cap ∧ xs.length ≤ cap ∧ (0 < xs.length → ∃ b o cs t fz, p = some ⟨b, o, none⟩ ∧ W.heap[b]? = some (.cells cs t fz) ∧ seg cs.toList o xs.length = some (i64C xs))
 bd : ∀ x ∈ xs, -9223372036854775808 ≤ x ∧ x ≤ 9223372036854775807
 small : xs.length ≤ 9223372036854775807
def Zds (xs : List Int) : List Int := xs.take 400
theorem Zlu : ∀ (cs : List Value) (off n : Nat), seg cs off n = if off + n ≤ cs.length then some ((cs.drop off).take n) else none
 | [], 0, 0 => by simp [seg]
 | _ :: _, 0, 0 => by simp [seg]
 | [], 0, n + 1 => by simp [seg]
 | [], off + 1, n => by cases n <;> simp [seg]
 | x :: xs, 0, n + 1 => by
  simp only [seg]
  rw [Zlu xs 0 n]
  by_cases h : n ≤ xs.length
  ·rw [if_pos (by omega), if_pos (by simp;omega)];simp
  ·rw [if_neg (by omega), if_neg (by simp;omega)]
 | x :: xs, off + 1, n => by
  have : seg (x :: xs) (off + 1) n = seg xs off n := by cases n <;> rfl
  rw [this, Zlu xs off n]
  by_cases h : off + n ≤ xs.length
  ·rw [if_pos h, if_pos (by simp;omega)];simp
  ·rw [if_neg h, if_neg (by simp;omega)]
theorem ZpE {cs ys : List Value} {off n m : Nat} (h : seg cs off n = some ys) (hm : m ≤ n) : seg cs off m = some (ys.take m) := by
 rw [Zlu] at h ⊢
 split at h
 ·rename_i hle
  rw [if_pos (by omega)]
  simp only [Option.some.injEq] at h
  subst h
  rw [List.take_take, Nat.min_eq_left hm]
 ·cases h
theorem Zpx {W w' : World} {bt : Nat} {p : Option Addr} {xs : List Int} (hE : Ext [] W w') (hbt : W.heap.size ≤ bt) (hbd : ∀ x ∈ xs, -9223372036854775808 ≤ x ∧ x ≤ 9223372036854775807)
  (hm : 0 < xs.length → ∃ b o cs t fz, p = some ⟨b, o, none⟩ ∧ W.heap[b]? = some (.cells cs t fz) ∧ seg cs.toList o xs.length = some (i64C xs)) : ZcG w' bt p (Zds xs).length (Zds xs) := by
 refine ⟨rfl, by unfold Zds;rw [List.length_take];omega, fun x hx => hbd x (List.mem_of_mem_take hx), fun hl => ?_⟩
 have hl0 : 0 < xs.length := by unfold Zds at hl;rw [List.length_take] at hl;omega
 obtain ⟨b, o, cs, t, fz, h1, h2, h3⟩ := hm hl0
 have hlt := (Array.getElem?_eq_some_iff.1 h2).1
 refine ⟨b, o, cs, t, fz, h1, by omega, by rw [hE.block b hlt (by simp)];exact h2, ?_⟩
 have := ZpE h3 (show (Zds xs).length ≤ xs.length by unfold Zds;rw [List.length_take];omega)
 rw [this]
 unfold i64C Zds
 rw [← List.map_take, List.length_take, Nat.min_comm, ← List.take_take, List.take_of_length_le (show (List.take 400 xs).length ≤ xs.length by rw [List.length_take];omega)]
theorem Zuu {p : Option Addr} {cap : Nat} (xs : List Int) (W : World) (hI : ZiV W (.slice p xs.length cap) xs) (hcap : xs.length ≤ cap) : Cal Tryz.prog 11 [.slice p xs.length cap].toArray W fun x w' => ∃ bt, x = .pointer (some ⟨bt, 0, none⟩) ∧ Mem [] W w' [(bt, tobj p (Zds xs).length cap 0)] := by
 have hsm := hI.small
 by_cases h4 : 400 < xs.length
 ·obtain ⟨b, o, hpp⟩ : ∃ b o, p = some ⟨b, o, none⟩ := by
   obtain ⟨p', cap', h1, _, h3⟩ := hI.ex
   cases h1
   obtain ⟨b, o, _, _, _, h5, _⟩ := h3 (by omega)
   exact ⟨b, o, h5⟩
  have hl : (Zds xs).length = 400 := by unfold Zds;rw [List.length_take];omega
  refine ZbU (n := 11) [] Tryz.func11 rfl rfl rfl ?_
  intro a w F M hwW
  refine ZaB (Zaf ?_)
  refine sD F (Zau (F.e rfl) ?_);clear F a;intro a F
  with_reducible refine ZaF (Zam (ZaB (ZaB (Zaf ?_))))
  refine sD F (Zaq (F.e rfl) fun a F => sD F (Zek (F.e rfl) fun a F => sD F (Zrj (F.e rfl) (F.e rfl) (by omega) ?_)));iterate 3 clear F a
  intro a F
  with_reducible refine ZaF (Zam ?_)
  refine ZcV F rfl rfl (Zaf ?_)
  refine sD F (Zaq (F.e rfl) ?_);clear F a;intro a F
  (refine sD F (Zuq (F.e rfl) (F.e rfl) (fun _ _ => trivial) (by omega) (by omega) ?_);clear F a;intro a F)
  refine sD F (Zau (F.e rfl) ?_);clear F a;intro a F
  with_reducible refine ZaF (Zam (ZaB (Zaf ?_)))
  refine sD F (Zaq (F.e rfl) fun a F => sD F (Zaw F rfl rfl ?_));iterate 2 clear F a
  intro a F
  (refine sD F (Zft M (F.e rfl) rfl ?_);clear F M;intro bt w M a F)
  refine sD F (Zau (F.e rfl) ?_);clear F a;intro a F
  with_reducible refine ZaF (Zam (Zb6 ?_))
  refine Zb3 F rfl (.cons (.tmp (F.e rfl)) .nil) (⟨bt, rfl, ?_⟩)
  rw [hl];exact M
 ·have hl : (Zds xs).length = xs.length := by unfold Zds;rw [List.length_take];omega
  refine ZbU (n := 11) [] Tryz.func11 rfl rfl rfl ?_
  intro a w F M hwW
  refine ZaB (Zaf ?_)
  refine sD F (Zau (F.e rfl) ?_);clear F a;intro a F
  with_reducible refine ZaF (Zam (ZaB (ZaB (Zaf ?_))))
  refine sD F (Zaq (F.e rfl) fun a F => sD F (Zek (F.e rfl) fun a F => sD F (Zrk (F.e rfl) (F.e rfl) (by omega) ?_)));iterate 3 clear F a
  intro a F
  with_reducible refine ZaF (Zam ?_)
  refine Zcm F rfl rfl ?_
  with_reducible refine ZcQ (Zam (ZaB (Zaf ?_)))
  refine sD F (Zaq (F.e rfl) fun a F => sD F (Zaw F rfl rfl ?_));iterate 2 clear F a
  intro a F
  (refine sD F (Zft M (F.e rfl) rfl ?_);clear F M;intro bt w M a F)
  refine sD F (Zau (F.e rfl) ?_);clear F a;intro a F
  with_reducible refine ZaF (Zam (Zb6 ?_))
  refine Zb3 F rfl (.cons (.tmp (F.e rfl)) .nil) (⟨bt, rfl, ?_⟩)
  rw [hl];exact M
theorem ZiV.later {W w : World} {v : Value} {xs : List Int} (h : ZiV W v xs) (E : Ext [] W w) : ZiV w v xs := by
 refine ⟨?_, h.bd, h.small⟩
 obtain ⟨p, cap, h1, h2, h3⟩ := h.ex
 refine ⟨p, cap, h1, h2, fun hl => ?_⟩
 obtain ⟨b, o, cs, t, fz, g1, g2, g3⟩ := h3 hl
 exact ⟨b, o, cs, t, fz, g1, by rw [E.block b (Array.getElem?_eq_some_iff.1 g2).1 (by simp)];exact g2, g3⟩
end
section
open Go.RowKit
attribute [local irreducible] OpTo wpListIn Code.wpIn MW Cal
def cmpV (x y : Int) : Int := if x < y then -1 else if y < x then 1 else 0
theorem Zgl (x : Int) (W : World) : Cal Tryz.prog 280 [.int .i64 x].toArray W fun v w' => v = .bool false ∧ Ext [] W w' := by
 refine ZbU (n := 6) [] Tryz.func280 rfl rfl rfl ?_
 intro a w F M hwW
 refine ZaB (Zaf ?_)
 refine sD F (Zau (F.e rfl) ?_);clear F a;intro a F
 with_reducible refine ZaF (Zam (ZaB (Zaf ?_)))
 refine sD F (Zaq (F.e rfl) fun a F => sD F (Zaq (F.e rfl) fun a F => sD F (ZlK (F.e rfl) (F.e rfl) (by omega) fun a F => sD F (Zau (F.e rfl) ?_))));iterate 4 clear F a
 intro a F
 with_reducible refine ZaF (Zam (Zb6 ?_))
 exact Zb3 F rfl (.cons (.tmp (F.e rfl)) .nil) (⟨rfl, M.ext⟩)
theorem Zlg (x y : Int) (W : World) : Cal Tryz.prog 184 [.int .i64 x, .int .i64 y].toArray W fun v w' => v = .int .i64 (cmpV x y) ∧ Ext [] W w' := by
 have hcase : x < y ∨ y < x ∨ x = y := by omega
 unfold cmpV
 rcases hcase with h | h | h
 ·rw [if_pos h]
  exact Zao (n := 20) (S := []) Zal Zak Tryz.func184 rfl rfl rfl (gR 8 rfl (Zad rfl rfl (fun w M => Zgl x _) (gR 6 rfl (Zad rfl rfl (fun w M => Zgl y _) (gR 29 rfl (ZaE rfl (dqT (by omega)) (gR 7 rfl (Zab rfl rfl rfl fun w M => ⟨rfl, M.ext⟩))))))))
 ·rw [if_neg (by omega), if_pos h]
  exact Zao (n := 20) (S := []) Zal Zak Tryz.func184 rfl rfl rfl (gR 8 rfl (Zad rfl rfl (fun w M => Zgl x _) (gR 6 rfl (Zad rfl rfl (fun w M => Zgl y _) (gR 29 rfl (Zav rfl (dqF (by omega)) (gR 10 rfl (ZaE rfl (dqT (by omega)) (gR 7 rfl (Zab rfl rfl rfl fun w M => ⟨rfl, M.ext⟩))))))))))
 ·rw [if_neg (by omega), if_neg (by omega)]
  exact Zao (n := 20) (S := []) Zal Zak Tryz.func184 rfl rfl rfl (gR 8 rfl (Zad rfl rfl (fun w M => Zgl x _) (gR 6 rfl (Zad rfl rfl (fun w M => Zgl y _) (gR 29 rfl (Zav rfl (dqF (by omega)) (gR 10 rfl (Zav rfl (dqF (by omega)) (gR 8 rfl (Zab rfl rfl rfl fun w M => ⟨rfl, M.ext⟩))))))))))
theorem Zgm (x : Int) (W : World) : Cal Tryz.prog 281 [.int .u64 x].toArray W fun v w' => v = .bool false ∧ Ext [] W w' := by
 refine ZbU (n := 6) [] Tryz.func281 rfl rfl rfl ?_
 intro a w F M hwW
 refine ZaB (Zaf ?_)
 refine sD F (Zau (F.e rfl) ?_);clear F a;intro a F
 with_reducible refine ZaF (Zam (ZaB (Zaf ?_)))
 refine sD F (Zaq (F.e rfl) fun a F => sD F (Zaq (F.e rfl) fun a F => sD F (ZlK (F.e rfl) (F.e rfl) (by omega) fun a F => sD F (Zau (F.e rfl) ?_))));iterate 4 clear F a
 intro a F
 with_reducible refine ZaF (Zam (Zb6 ?_))
 exact Zb3 F rfl (.cons (.tmp (F.e rfl)) .nil) (⟨rfl, M.ext⟩)
theorem Zo1 (x y : Int) (W : World) : Cal Tryz.prog 185 [.int .u64 x, .int .u64 y].toArray W fun v w' => v = .int .i64 (cmpV x y) ∧ Ext [] W w' := by
 have hcase : x < y ∨ y < x ∨ x = y := by omega
 unfold cmpV
 rcases hcase with h | h | h
 ·rw [if_pos h]
  exact Zao (n := 20) (S := []) Zal Zak Tryz.func185 rfl rfl rfl (gR 8 rfl (Zad rfl rfl (fun w M => Zgm x _) (gR 6 rfl (Zad rfl rfl (fun w M => Zgm y _) (gR 29 rfl (ZaE rfl (dqT (by omega)) (gR 7 rfl (Zab rfl rfl rfl fun w M => ⟨rfl, M.ext⟩))))))))
 ·rw [if_neg (by omega), if_pos h]
  exact Zao (n := 20) (S := []) Zal Zak Tryz.func185 rfl rfl rfl (gR 8 rfl (Zad rfl rfl (fun w M => Zgm x _) (gR 6 rfl (Zad rfl rfl (fun w M => Zgm y _) (gR 29 rfl (Zav rfl (dqF (by omega)) (gR 10 rfl (ZaE rfl (dqT (by omega)) (gR 7 rfl (Zab rfl rfl rfl fun w M => ⟨rfl, M.ext⟩))))))))))
 ·rw [if_neg (by omega), if_neg (by omega)]
  exact Zao (n := 20) (S := []) Zal Zak Tryz.func185 rfl rfl rfl (gR 8 rfl (Zad rfl rfl (fun w M => Zgm x _) (gR 6 rfl (Zad rfl rfl (fun w M => Zgm y _) (gR 29 rfl (Zav rfl (dqF (by omega)) (gR 10 rfl (Zav rfl (dqF (by omega)) (gR 8 rfl (Zab rfl rfl rfl fun w M => ⟨rfl, M.ext⟩))))))))))
def orV : List Int → Int
 | [] => 0
 | x :: xs => if x = 0 then orV xs else x
theorem ZrP {cs : List Value} {off n i : Nat} {xs : List Int} (h : seg cs off n = some (i64C xs)) (hi : i < n) {q : Nat} (hq : q = off + i) : nth cs q = some (.int .i64 (xs.getD i 0)) := by
 obtain ⟨h1, h2⟩ := Zc5 _ _ _ _ h
 have := h2 i hi
 subst hq
 rw [ZbG, this]
 have hxn : xs.length = n := by simpa [i64C] using h1
 have hl : i < xs.length := by omega
 simp [i64C, hl]
theorem or_c {b : Nat} {t : TypeId} {fz : Nat × Nat} (xs : List Int) (n : Nat) (hn : xs.length = n) (hn2 : n ≤ 1000) (W : World) (hb : W.heap[b]? = some (.cells (i64C xs).toArray t fz)) : Cal Tryz.prog 182 [.slice (some ⟨b, 0, none⟩) n n].toArray W fun v w' => v = .int .i64 (orV xs) ∧ Ext [] W w' := by
 have hs : seg (i64C xs) 0 n = some (i64C xs) := Zbw (by simp [i64C, hn])
 refine ZbU (n := 18) [b] Tryz.func182 rfl rfl rfl ?_
 intro a w F M hwW
 replace M := M.came hwW hb (by simp) (by simp)
 refine ZaB (Zaf ?_)
 refine sD F (Zau (F.e rfl) ?_);clear F a;intro a F
 with_reducible refine ZaF (Zam (ZaB (Zaf ?_)))
 refine sD F (Zau (F.e rfl) ?_);clear F a;intro a F
 with_reducible refine ZaF (Zam (ZaB (ZaB (Zaf ?_))))
 refine sD F (Zaq (F.e rfl) fun a F => sD F (Zek (F.e rfl) fun a F => sD F (Zaq (F.e rfl) ?_)));iterate 3 clear F a
 intro a F
 with_reducible refine ZaF (Zam (ZbT ?_))
 refine ZgK (fun k a w => ∃ i : Nat, k = n - i ∧ i ≤ n ∧ orV xs = orV (xs.drop i) ∧ Frm a 18 [] [(8, .int .i64 i), (7, .int .i64 n), (6, .slice (some ⟨b, 0, none⟩) n n), (3, .int .i64 0)] ∧ Mem [b] W w [(b, .cells (i64C xs).toArray t fz)]) n ⟨0, rfl, by omega, rfl, F.only [8, 7, 6, 3] rfl, M⟩ ?_
 clear F M
 rintro k a w ⟨i, hk, hi, hor, F, M⟩
 by_cases hlt : i < n
 ·have e1 := ZrP hs hlt (q := 0 + (i : Int).toNat * 1) (by omega)
  have hd : xs.drop i = xs.getD i 0 :: xs.drop (i + 1) := by
   rw [List.drop_eq_getElem_cons (by omega), List.getD_eq_getElem?_getD, List.getElem?_eq_getElem (by omega)];rfl
  rw [hd] at hor
  by_cases h0 : xs.getD i 0 = 0
  ·refine ZaB ?_
   refine Zaf ?_
   refine sD F (ZgG (F.e rfl) (F.e rfl) (by omega) ?_);clear F a;intro a F
   with_reducible refine ZaF (Zam (ZaB ?_))
   refine ZcV F rfl rfl ?_
   with_reducible refine ZcQ (Zam (ZaB (ZbT (ZaB (Zaf ?_)))))
   refine sD F (Zcg (F.e rfl) (F.e rfl) (by omega) (by omega) fun a F => sD F (Zbo M (F.e rfl) (by repeat constructor) ‹_› ?_));iterate 2 clear F a
   intro a F
   refine sD F (Zau (F.e rfl) ?_);clear F a;intro a F
   with_reducible refine ZaF (Zam (ZaB (Zaf ?_)))
   refine sD F (Zaq (F.e rfl) fun a F => sD F (Zaq (F.e rfl) fun a F => sD F (ZlK (F.e rfl) (F.e rfl) (by omega) ?_)));iterate 3 clear F a
   intro a F
   with_reducible refine ZaF (Zam ?_)
   refine Zcm F rfl rfl ?_
   with_reducible refine ZcQ (Zmy (Zam (Zaf ?_)))
   refine sD F (ZgN (F.e rfl) (F.e rfl) (Zax (by omega) (by omega)) fun a F => sD F (Zaq (F.e rfl) ?_));iterate 2 clear F a
   intro a F
   with_reducible refine ZaF (Zam ?_)
   exact ⟨_, by omega, i + 1, rfl, by omega, by rw [hor];simp only [orV, h0, if_true], F.only [8, 7, 6, 3] rfl, M⟩
  ·refine ZaB ?_
   refine Zaf ?_
   refine sD F (ZgG (F.e rfl) (F.e rfl) (by omega) ?_);clear F a;intro a F
   with_reducible refine ZaF (Zam (ZaB ?_))
   refine ZcV F rfl rfl ?_
   with_reducible refine ZcQ (Zam (ZaB (ZbT (ZaB (Zaf ?_)))))
   refine sD F (Zcg (F.e rfl) (F.e rfl) (by omega) (by omega) fun a F => sD F (Zbo M (F.e rfl) (by repeat constructor) ‹_› ?_));iterate 2 clear F a
   intro a F
   refine sD F (Zau (F.e rfl) ?_);clear F a;intro a F
   with_reducible refine ZaF (Zam (ZaB (Zaf ?_)))
   refine sD F (Zaq (F.e rfl) fun a F => sD F (Zaq (F.e rfl) fun a F => sD F (Zrh (F.e rfl) (F.e rfl) (by omega) ?_)));iterate 3 clear F a
   intro a F
   with_reducible refine ZaF (Zam ?_)
   refine ZcV F rfl rfl (ZaB (Zaf ?_))
   refine sD F (Zaq (F.e rfl) fun a F => sD F (Zau (F.e rfl) ?_));iterate 2 clear F a
   intro a F
   with_reducible refine ZaF (Zam (Zb6 (Zis (Zdj (Zdj (Zis (Zdj ?_)))))))
   refine Zb3 F rfl (.cons (.tmp (F.e rfl)) .nil) ?_
   exact ⟨by rw [hor];simp only [orV, h0, if_false];rfl, M.back1 .here hb⟩
 ·obtain rfl : i = n := by omega
  rw [List.drop_of_length_le (by omega)] at hor
  refine ZaB (Zaf ?_)
  refine sD F (Zhq (F.e rfl) (F.e rfl) (by omega) ?_);clear F a;intro a F
  with_reducible refine ZaF (Zam (ZaB ?_))
  refine Zcm F rfl rfl ?_
  with_reducible refine Zf6 (ZcM (ZcM (ZgD (Zam (ZaB (Zaf ?_))))))
  refine sD F (Zaq (F.e rfl) fun a F => sD F (Zau (F.e rfl) ?_));iterate 2 clear F a
  intro a F
  with_reducible refine ZaF (Zam (Zb6 ?_))
  refine Zb3 F rfl (.cons (.tmp (F.e rfl)) .nil) ?_
  exact ⟨by rw [hor];rfl, M.back1 .here hb⟩
end
section
open Go.RowKit
attribute [local irreducible] OpTo wpListIn Code.wpIn MW Cal
end
section
open Go.RowKit
def bitX (x : Int) (r : Nat) : Int := ZbK .and .u8 (Int.fdiv x (2 ^ min (7 - (r : Int)).toNat IntKind.u8.bits)) 1
def bitI (a : List Int) (i : Nat) : Int := bitX (a.getD (i / 8) 0) (i % 8)
theorem ZsL : ∀ x : Fin 256, ∀ r : Fin 8, bitX (x.1 : Int) r.1 = ((x.1 / 2 ^ (7 - r.1) % 2 : Nat) : Int) := by decide +kernel
theorem Znh : ∀ x : Fin 256, ∀ k : Fin 9, (x.1 / 2 ^ (8 - k.1) * 2 ^ (8 - k.1) = x.1) ↔ ∀ r : Fin 8, k.1 ≤ r.1 → x.1 / 2 ^ (7 - r.1) % 2 = 0 := by decide +kernel
theorem Zqk : ∀ x : Fin 256, ∀ k : Fin 9, (Lib.bitLen x.1 ≤ 8 - k.1) ↔ ∀ r : Fin 8, r.1 < k.1 → x.1 / 2 ^ (7 - r.1) % 2 = 0 := by decide +kernel
theorem Zqi : ∀ x : Fin 256, ∀ r : Fin 8, ZbK .or .u8 (cutB (x.1 : Int) r.1) (IntKind.u8.wrap (bitX (x.1 : Int) r.1 * 2 ^ min (7 - (r.1 : Int)).toNat IntKind.u8.bits)) = cutB (x.1 : Int) (r.1 + 1) := by decide +kernel
theorem ZqP : ∀ x : Fin 256, cutB (x.1 : Int) 0 = 0 := by decide +kernel
theorem Zf8 {x : Nat} {r : Nat} (hx : x < 256) (hr : r < 8) : bitX (x : Int) r = ((x / 2 ^ (7 - r) % 2 : Nat) : Int) := ZsL ⟨x, hx⟩ ⟨r, hr⟩
theorem Zgz {a : List Int} (ha : IsIP a) (j : Nat) : ∃ x : Nat, x < 256 ∧ a.getD j 0 = (x : Int) := by
 have := ha.at_ j
 obtain ⟨x, hx⟩ := Int.eq_ofNat_of_zero_le this.1
 exact ⟨x, by omega, hx⟩
theorem ZsM {a : List Int} (ha : IsIP a) (i : Nat) : bitI a i = 0 ∨ bitI a i = 1 := by
 obtain ⟨x, hx, hxe⟩ := Zgz ha (i / 8)
 unfold bitI
 rw [hxe, Zf8 hx (Nat.mod_lt _ (by omega))]
 omega
theorem Zok {n j r : Nat} (hr : r < 8) : (Zcj (n : Int) j).toNat ≤ r ↔ n ≤ 8 * j + r := by
 unfold Zcj
 split <;> (try split) <;> omega
theorem Zoj {n j r : Nat} (hr : r < 8) : r < (Zcj (n : Int) j).toNat ↔ 8 * j + r < n := by
 unfold Zcj
 split <;> (try split) <;> omega
theorem Zk1 {p : List Int} (hp : IsIP p) (n : Int) : ZbH p n = p ↔ ∀ j, j < 16 → Zc9 p n j = p.getD j 0 := by
 constructor
 ·intro h j hj
  rw [← ZlS p n hj, h]
 ·intro h
  apply List.ext_getElem (by rw [Zbs, hp.len])
  intro j h1 h2
  have hj : j < 16 := by rw [Zbs] at h1;exact h1
  have e := h j hj
  simp only [ZbH, List.getElem_map, List.getElem_range]
  rw [e, List.getD_eq_getElem?_getD, List.getElem?_eq_getElem h2]
  rfl
theorem Zic {p : List Int} (hp : IsIP p) (n : Nat) : ZbH p (n : Int) = p ↔ ∀ i, n ≤ i → i < 128 → bitI p i = 0 := by
 rw [Zk1 hp]
 have key : ∀ j, j < 16 → (Zc9 p n j = p.getD j 0 ↔ ∀ r, r < 8 → (Zcj (n : Int) j).toNat ≤ r → bitI p (8 * j + r) = 0) := by
  intro j hj
  obtain ⟨x, hx, hxe⟩ := Zgz hp j
  have hk := Zem (n : Int) (j : Int)
  rw [Zco, hxe, Zeq hx hk]
  have hv := Znh ⟨x, hx⟩ ⟨(Zcj (n : Int) j).toNat, by omega⟩
  simp only at hv
  constructor
  ·intro h r hr hkr
   have h' : x / 2 ^ (8 - (Zcj (n : Int) j).toNat) * 2 ^ (8 - (Zcj (n : Int) j).toNat) = x := by exact_mod_cast h
   have := hv.1 h' ⟨r, hr⟩ hkr
   unfold bitI
   rw [show (8 * j + r) / 8 = j by omega, show (8 * j + r) % 8 = r by omega, hxe, Zf8 hx hr]
   simp only at this
   omega
  ·intro h
   have : x / 2 ^ (8 - (Zcj (n : Int) j).toNat) * 2 ^ (8 - (Zcj (n : Int) j).toNat) = x := hv.2 fun r hkr => by
    have h1 := h r.1 r.2 hkr
    unfold bitI at h1
    rw [show (8 * j + r.1) / 8 = j by omega, show (8 * j + r.1) % 8 = r.1 by omega, hxe, Zf8 hx r.2] at h1
    omega
   exact_mod_cast this
 constructor
 ·intro h i hi hlt
  have := (key (i / 8) (by omega)).1 (h (i / 8) (by omega)) (i % 8) (Nat.mod_lt _ (by omega)) ((Zok (Nat.mod_lt _ (by omega))).2 (by omega))
  rwa [show 8 * (i / 8) + i % 8 = i by omega] at this
 ·intro h j hj
  exact (key j hj).2 fun r hr hkr => h _ ((Zok hr).1 hkr) (by omega)
theorem Zob {a : List Int} (ha : IsIP a) {i : Nat} (hi : i < 128) : ZbK .or .u8 (Zc9 a (i : Int) (i / 8)) (IntKind.u8.wrap (bitI a i * 2 ^ min (7 - ((i % 8 : Nat) : Int)).toNat IntKind.u8.bits)) = Zc9 a ((i : Int) + 1) (i / 8) := by
 obtain ⟨x, hx, hxe⟩ := Zgz ha (i / 8)
 have k1 : (Zcj (i : Int) ((i / 8 : Nat) : Int)).toNat = i % 8 := by unfold Zcj;split <;> (try split) <;> omega
 have k2 : (Zcj ((i : Int) + 1) ((i / 8 : Nat) : Int)).toNat = i % 8 + 1 := by unfold Zcj;split <;> (try split) <;> omega
 rw [Zco, Zco, k1, k2]
 unfold bitI
 rw [hxe]
 exact Zqi ⟨x, hx⟩ ⟨i % 8, Nat.mod_lt _ (by omega)⟩
theorem ZmL {a : List Int} {i j : Nat} (hj : j ≠ i / 8) : Zc9 a ((i : Int) + 1) j = Zc9 a (i : Int) j := by
 have : Zcj ((i : Int) + 1) (j : Int) = Zcj (i : Int) (j : Int) := by unfold Zcj;split <;> (try split) <;> (try split) <;> (try split) <;> omega
 rw [Zco, Zco, this]
theorem Zqh {a : List Int} {i : Nat} (hi : i < 128) : (ZbH a (i : Int)).set (i / 8) (Zc9 a ((i : Int) + 1) (i / 8)) = ZbH a ((i : Int) + 1) := by
 unfold ZbH
 apply List.ext_getElem (by simp)
 intro j h1 h2
 simp only [List.getElem_set, List.getElem_map, List.getElem_range]
 split
 ·subst_vars;rfl
 ·rename_i hne
  exact (ZmL (fun h => hne h.symm)).symm
theorem Zoa {a : List Int} (ha : IsIP a) : ZbH a 0 = Zm8 := by
 have : ∀ j, j < 16 → Zc9 a 0 j = 0 := fun j hj => by
  obtain ⟨x, hx, hxe⟩ := Zgz ha j
  have k : (Zcj 0 (j : Int)).toNat = 0 := by unfold Zcj;split <;> (try split) <;> omega
  rw [Zco, hxe, k]
  exact ZqP ⟨x, hx⟩
 unfold ZbH
 rw [List.map_congr_left (g := fun _ => (0 : Int)) fun j hj => this j (List.mem_range.1 hj)]
 rfl
theorem xor2 (a b : Nat) : (a ^^^ b) % 2 = 0 ↔ a % 2 = b % 2 := by
 have h := Nat.xor_mod_two_pow (a := a) (b := b) (n := 1)
 simp only [Nat.pow_one] at h
 rw [h]
 rcases Nat.mod_two_eq_zero_or_one a with ha | ha <;> rcases Nat.mod_two_eq_zero_or_one b with hb | hb <;> rw [ha, hb] <;> decide
theorem ZhG {p q : List Int} (hp : IsIP p) (hq : IsIP q) {m : Nat} (hm : m ≤ 128) : ((m : Int) ≤ Zdn p q) ↔ ∀ i, i < m → bitI p i = bitI q i := by
 unfold Zdn
 rw [Zgx hp hq (by omega) (by omega) 16 (Nat.le_refl _)]
 have key : ∀ j, j < 16 → (Lib.bitLen (Zf9 p q j).toNat ≤ 8 - (Zcj (m : Int) j).toNat ↔ ∀ r, r < 8 → r < (Zcj (m : Int) j).toNat → bitI p (8 * j + r) = bitI q (8 * j + r)) := by
  intro j hj
  obtain ⟨x, hx, hxe⟩ := Zgz hp j
  obtain ⟨y, hy, hye⟩ := Zgz hq j
  have hk := Zem (m : Int) (j : Int)
  have hxy : x ^^^ y < 256 := Nat.xor_lt_two_pow (n := 8) hx hy
  have hxo : (Zf9 p q j).toNat = x ^^^ y := by
   unfold Zf9
   rw [hxe, hye, Zjx (k := .u8) rfl (show x < 2 ^ 8 by omega) (show y < 2 ^ 8 by omega), Int.toNat_natCast]
  rw [hxo]
  have hl := Zqk ⟨x ^^^ y, hxy⟩ ⟨(Zcj (m : Int) j).toNat, by omega⟩
  simp only at hl
  rw [hl]
  have hb : ∀ r, r < 8 → (((x ^^^ y) / 2 ^ (7 - r) % 2 = 0) ↔ bitI p (8 * j + r) = bitI q (8 * j + r)) := fun r hr => by
   unfold bitI
   rw [show (8 * j + r) / 8 = j by omega, show (8 * j + r) % 8 = r by omega, hxe, hye, Zf8 hx hr, Zf8 hy hr, Nat.xor_div_two_pow, xor2]
   omega
  exact ⟨fun h r hr hk => (hb r hr).1 (h ⟨r, hr⟩ hk), fun h r hk => (hb r.1 r.2).2 (h r.1 r.2 hk)⟩
 constructor
 ·intro h i hi
  have := (key (i / 8) (by omega)).1 (h (i / 8) (by omega) (by omega)) (i % 8) (Nat.mod_lt _ (by omega)) ((Zoj (Nat.mod_lt _ (by omega))).2 (by omega))
  rwa [show 8 * (i / 8) + i % 8 = i by omega] at this
 ·intro h j _ hj
  exact (key j hj).2 fun r hr hk => h _ ((Zoj hr).1 hk)
theorem Zo0 {p q : List Int} (hp : IsIP p) (hq : IsIP q) : Zdn p q ≤ 128 ∧ 0 ≤ Zdn p q := by
 have key : ∀ k, k ≤ 16 → Zcq p q k ≤ 128 ∧ 0 ≤ Zcq p q k := by
  intro k
  induction k with
  | zero => intro _;simp [Zcq]
  | succ k ih =>
   intro hk
   have h1 := Zna hp hq (15 - k)
   have h2 := bitLen_le8 h1.1 h1.2
   simp only [Zcq]
   split
   ·omega
   ·exact ih (by omega)
 exact key 16 (Nat.le_refl _)
theorem Zkl {p q : List Int} (hp : IsIP p) (hq : IsIP q) {n : Nat} (hn : n ≤ 128) (h : ∀ i, i < n → bitI p i = bitI q i) (h' : n < 128 → bitI p n ≠ bitI q n) : Zdn p q = n := by
 have h1 := (ZhG hp hq hn).2 h
 have h2 := Zo0 hp hq
 rcases Nat.lt_or_ge n 128 with hlt | hge
 ·have h3 : ¬ (((n + 1 : Nat) : Int) ≤ Zdn p q) := fun hc => h' hlt ((ZhG hp hq (by omega)).1 hc n (by omega))
  omega
 ·omega
end
section
open Go.RowKit
attribute [local irreducible] OpTo wpListIn Code.wpIn MW Cal
theorem quo8 {i : Nat} (hi : i ≤ 1000) : IntKind.i64.wrap ((i : Int).tdiv 8) = ((i / 8 : Nat) : Int) := by
 rw [Int.tdiv_eq_ediv_of_nonneg (by omega), Zax (by omega) (by omega)];omega
theorem rem8 (i : Nat) : (i : Int).tmod 8 = ((i % 8 : Nat) : Int) := by
 rw [Int.tmod_eq_emod_of_nonneg (by omega)];omega
theorem Zm1 (a : List Int) (ha : IsIP a) (i : Nat) (hi : i < 128) (W : World) : Cal Tryz.prog 178 [.agg (ipC a).toArray, .int .i64 i].toArray W fun v w' => v = .int .u8 (bitI a i) ∧ Ext [] W w' := by
 have hlt : i % 8 < 8 := Nat.mod_lt _ (by omega)
 have hn : nth (ipC a) (0 + ((i / 8 : Nat) : Int).toNat * 1) = some (.int .u8 (a.getD (i / 8) 0)) := Zrm (by rw [ha.len];omega)
 refine ZbU (n := 15) [] Tryz.func178 rfl rfl rfl ?_
 intro a w F M hwW
 refine ZaB (Zaf ?_)
 (refine sD F (Zft M (F.e rfl) rfl ?_);clear F M;intro b2 w M a F)
 refine sD F (Zau (F.e rfl) ?_);clear F a;intro a F
 with_reducible refine ZaF (Zam (ZaB (Zaf ?_)))
 refine sD F (Zaq (F.e rfl) fun a F => sD F (Zp0 (F.e rfl) (F.e rfl) (by omega) rfl ?_));iterate 2 clear F a
 intro a F
 rw [quo8 (i := i) (by omega)] at F
 refine sD F (Zbc (F.e rfl) (F.e rfl) (by omega) (by omega) fun a F => sD F (Zbo M (F.e rfl) (by repeat constructor) ‹_› ?_));iterate 2 clear F a
 intro a F
 refine sD F (Zaq (F.e rfl) fun a F => sD F (ZmD (F.e rfl) (F.e rfl) (by omega) rfl ?_));iterate 2 clear F a
 intro a F
 rw [rem8 i] at F
 refine sD F (Zey (F.e rfl) (ZgM (by omega) (by omega)) fun a F => sD F (Zi7 (F.e rfl) (F.e rfl) (ZgM (by omega) (by omega)) fun a F => sD F (Zr6 (F.e rfl) (F.e rfl) (by omega) rfl fun a F => sD F (Zqa (F.e rfl) (F.e rfl) rfl fun a F => sD F (Zau (F.e rfl) ?_)))));iterate 5 clear F a
 intro a F
 with_reducible refine ZaF (Zam (Zb6 ?_))
 exact Zb3 F rfl (.cons (.tmp (F.e rfl)) .nil) (⟨rfl, M.ext⟩)
theorem ZbR (p : List Int) (n : Int) (hp : IsIP p) (W : World) : Cal Tryz.prog 168 [.agg (pfC p n).toArray].toArray W fun v w' => v = .bool (ZbO p n) ∧ Ext [] W w' := by
 have e2 := Zgf hp.len n
 have e3 := Ziw hp.len n
 by_cases h0 : n < 0
 ·refine ZbU (n := 23) [] Tryz.func168 rfl rfl rfl ?_
  intro a w F M hwW
  refine ZaB (Zaf ?_)
  (refine sD F (Zft M (F.e rfl) rfl ?_);clear F M;intro b1 w M a F)
  refine sD F (Zau (F.e rfl) ?_);clear F a;intro a F
  with_reducible refine ZaF (Zam (ZaB (ZaB (Zaf ?_))))
  refine sD F (Zay (F.e rfl) fun a F => sD F (Zbo M (F.e rfl) (by repeat constructor) ‹_› ?_));iterate 2 clear F a
  intro a F
  refine sD F (ZgG (F.e rfl) (F.e rfl) (by omega) fun a F => sD F (Zaq (F.e rfl) fun a F => sO F fun a F => sO F fun a F => sO F fun a F => sD F (Zfs (F.e rfl) (F.e rfl) ?_)));iterate 6 clear F a
  intro a F
  with_reducible refine ZaF (Zam ?_)
  refine ZcV F rfl rfl (ZaB (Zaf ?_))
  refine sD F (Zau (F.e rfl) ?_);clear F a;intro a F
  with_reducible refine ZaF (Zam (Zb6 (Zdj ?_)))
  exact Zb3 F rfl (.cons (.tmp (F.e rfl)) .nil) (⟨by simp [ZcA, ZbO, show ¬ 0 ≤ n by omega], M.ext⟩)
 ·by_cases h1 : 128 < n
  ·refine ZbU (n := 23) [] Tryz.func168 rfl rfl rfl ?_
   intro a w F M hwW
   refine ZaB (Zaf ?_)
   (refine sD F (Zft M (F.e rfl) rfl ?_);clear F M;intro b1 w M a F)
   refine sD F (Zau (F.e rfl) ?_);clear F a;intro a F
   with_reducible refine ZaF (Zam (ZaB (ZaB (Zaf ?_))))
   refine sD F (Zay (F.e rfl) fun a F => sD F (Zbo M (F.e rfl) (by repeat constructor) ‹_› ?_));iterate 2 clear F a
   intro a F
   refine sD F (Zhq (F.e rfl) (F.e rfl) (by omega) fun a F => sD F (Zaq (F.e rfl) fun a F => sG F (Zay (F.e rfl) fun a F => sG F (Zbo M (F.e rfl) (by repeat constructor) ‹_› ?_))));iterate 4 clear F a
   intro a F
   refine sG F (Zrj (F.e rfl) (F.e rfl) (by omega) fun a F => sD F (ZdX (F.e rfl) (F.e rfl) ?_));iterate 2 clear F a
   intro a F
   with_reducible refine ZaF (Zam ?_)
   refine ZcV F rfl rfl (ZaB (Zaf ?_))
   refine sD F (Zau (F.e rfl) ?_);clear F a;intro a F
   with_reducible refine ZaF (Zam (Zb6 (Zdj ?_)))
   exact Zb3 F rfl (.cons (.tmp (F.e rfl)) .nil) (⟨by simp [ZcA, ZbO, show ¬ n ≤ 128 by omega], M.ext⟩)
  ·obtain ⟨k, rfl⟩ := Int.eq_ofNat_of_zero_le (show 0 ≤ n by omega)
   have hv : ZbO p (k : Int) = decide (ZbH p (k : Int) = p) := by
    have h2 : (0 : Int) ≤ k := by omega
    have h3 : (k : Int) ≤ 128 := by omega
    simp only [ZbO, h2, h3, decide_true, Bool.true_and]
    by_cases h : ZbH p (k : Int) = p
    ·rw [dqT h, beq_iff_eq];exact h
    ·rw [dqF h, beq_eq_false_iff_ne];exact h
   rw [hv]
   refine ZbU (n := 23) [] Tryz.func168 rfl rfl rfl ?_
   intro a w F M hwW
   refine ZaB (Zaf ?_)
   (refine sD F (Zft M (F.e rfl) rfl ?_);clear F M;intro b1 w M a F)
   refine sD F (Zau (F.e rfl) ?_);clear F a;intro a F
   with_reducible refine ZaF (Zam (ZaB (ZaB (Zaf ?_))))
   refine sD F (Zay (F.e rfl) fun a F => sD F (Zbo M (F.e rfl) (by repeat constructor) ‹_› ?_));iterate 2 clear F a
   intro a F
   refine sD F (Zhq (F.e rfl) (F.e rfl) (by omega) fun a F => sD F (Zaq (F.e rfl) fun a F => sG F (Zay (F.e rfl) fun a F => sG F (Zbo M (F.e rfl) (by repeat constructor) ‹_› ?_))));iterate 4 clear F a
   intro a F
   refine sG F (Zrk (F.e rfl) (F.e rfl) (by omega) fun a F => sD F (ZdX (F.e rfl) (F.e rfl) ?_));iterate 2 clear F a
   intro a F
   with_reducible refine ZaF (Zam ?_)
   refine Zcm F rfl rfl ?_
   with_reducible refine ZcQ (Zam (ZaB (ZaB (Zaf ?_))))
   refine sD F (Zay (F.e rfl) fun a F => sD F (Zbo M (F.e rfl) (by repeat constructor) ‹_› ?_));iterate 2 clear F a
   intro a F
   refine sD F (Zau (F.e rfl) ?_);clear F a;intro a F
   with_reducible refine ZaF (Zam (ZbT ?_))
   refine ZgK (fun m a w => ∃ i : Nat, m = 128 - i ∧ k ≤ i ∧ i ≤ 128 ∧ (∀ j, k ≤ j → j < i → bitI p j = 0) ∧ Frm a 23 [] [(3, .int .i64 i), (1, .pointer (some ⟨b1, 0, none⟩))] ∧ Mem [] W w [(b1, .cells (pfC p k).toArray 65 (0, 0))]) (128 - k) ⟨k, rfl, by omega, by omega, fun j h1 h2 => by omega, F.only [3, 1] rfl, M⟩ ?_
   clear F M
   rintro m a w ⟨i, hm, hki, hi, hall, F, M⟩
   by_cases hlt : i < 128
   ·refine ZaB ?_
    refine ZaB (Zaf ?_)
    refine sD F (Zaq (F.e rfl) fun a F => sD F (ZgG (F.e rfl) (F.e rfl) (by omega) ?_));iterate 2 clear F a
    intro a F
    with_reducible refine ZaF (Zam ?_)
    refine ZcV F rfl rfl ?_
    with_reducible refine ZcQ (Zam (ZaB (ZbT (ZaB (Zaf ?_)))))
    refine sD F (Zay (F.e rfl) fun a F => sD F (Zc0 M (F.e rfl) (by repeat constructor) ‹_› ?_));iterate 2 clear F a
    intro a F
    refine sD F (Zaq (F.e rfl) ?_);clear F a;intro a F
    (refine sD F (Zbh (F.e rfl) (F.evs rfl) (Cal.mono (Zm1 p hp i hlt _) ?_));clear F;clear a;rintro _ w ⟨rfl, hE⟩ a F;replace M := M.later hE;clear hE)
    by_cases hb : bitI p i = 0
    ·refine sD F (ZlK (F.e rfl) (F.e rfl) (by omega) ?_);clear F a;intro a F
     with_reducible refine ZaF (Zam ?_)
     refine Zcm F rfl rfl ?_
     with_reducible refine ZcQ (Zmy (Zam (Zaf ?_)))
     refine sD F (Zaq (F.e rfl) fun a F => sD F (ZgN (F.e rfl) (F.e rfl) (Zax (by omega) (by omega)) fun a F => sD F (Zau (F.e rfl) ?_)));iterate 3 clear F a
     intro a F
     with_reducible refine ZaF (Zam ?_)
     refine ⟨_, by omega, i + 1, rfl, by omega, by omega, fun j h1 h2 => ?_, F.only [3, 1] rfl, M⟩
     by_cases e : j = i
     ·subst e;exact hb
     ·exact hall j h1 (by omega)
    ·refine sD F (Zrh (F.e rfl) (F.e rfl) (by omega) ?_);clear F a;intro a F
     with_reducible refine ZaF (Zam ?_)
     refine ZcV F rfl rfl (ZaB (Zaf ?_))
     refine sD F (Zau (F.e rfl) ?_);clear F a;intro a F
     with_reducible refine ZaF (Zam (Zb6 (Zis (Zdj (Zdj (Zis (Zdj ?_)))))))
     refine Zb3 F rfl (.cons (.tmp (F.e rfl)) .nil) (⟨?_, M.ext⟩)
     rw [dqF fun h => hb ((Zic hp k).1 h i hki hlt)]
     rfl
   ·obtain rfl : i = 128 := by omega
    with_reducible refine ZaB (ZaB (Zaf ?_))
    refine sD F (Zaq (F.e rfl) fun a F => sD F (Zhq (F.e rfl) (F.e rfl) (by omega) ?_));iterate 2 clear F a
    intro a F
    with_reducible refine ZaF (Zam ?_)
    refine Zcm F rfl rfl ?_
    with_reducible refine Zf6 (ZcM (ZcM (ZgD (Zam (ZaB (Zaf ?_))))))
    refine sD F (Zau (F.e rfl) ?_);clear F a;intro a F
    with_reducible refine ZaF (Zam (Zb6 ?_))
    refine Zb3 F rfl (.cons (.tmp (F.e rfl)) .nil) (⟨?_, M.ext⟩)
    rw [dqT ((Zic hp k).2 fun j h1 h2 => hall j h1 h2)]
    rfl
theorem Zqb {a : List Int} {i : Nat} (hi : i < 128) (n : Int) : nth (pfC (ZbH a (i : Int)) n) (0 + 0 + ((i / 8 : Nat) : Int).toNat * 1) = some (.int .u8 (Zc9 a (i : Int) (i / 8))) := by
 have h : i / 8 < 16 := by omega
 rw [ZbG, show 0 + 0 + ((i / 8 : Nat) : Int).toNat * 1 = i / 8 by omega]
 unfold pfC ipC
 rw [List.getElem?_append_left (by simp [Zbs, h]), List.getElem?_map]
 simp [ZbH, h]
theorem ZpR {a : List Int} (ha : IsIP a) {i : Nat} (hi : i < 128) (n : Int) : put (pfC (ZbH a (i : Int)) n) (0 + 0 + ((i / 8 : Nat) : Int).toNat * 1) [.int .u8 (ZbK .or .u8 (Zc9 a (i : Int) (i / 8)) (IntKind.u8.wrap (bitI a i * 2 ^ min (7 - ((i % 8 : Nat) : Int)).toNat IntKind.u8.bits)))] = some (pfC (ZbH a ((i : Int) + 1)) n) := by
 have h : i / 8 < 16 := by omega
 rw [Zob ha hi, put1 (q := i / 8) _ (by omega) (by simp [pfC, ipC, Zbs];omega)]
 congr 1
 unfold pfC ipC
 rw [List.set_append_left _ _ (by simp [Zbs, h]), ← List.map_set, Zqh hi]
theorem ZkG (a : List Int) (ha : IsIP a) (n : Int) (W : World) : Cal Tryz.prog 82 [.agg (ipC a).toArray, .int .i64 n].toArray W fun v w' => v = .agg (pfC (ZbH a (Zde n)) (Zde n)).toArray ∧ Ext [] W w' := by
 have e1 := Zbw (ZaU ha.len)
 obtain ⟨c, hc⟩ : ∃ c : Nat, Zde n = (c : Int) := Int.eq_ofNat_of_zero_le (by unfold Zde;split <;> (try split) <;> omega)
 have hc2 : c ≤ 128 := by (have : Zde n ≤ 128 := by (unfold Zde;split <;> (try split) <;> omega));omega
 obtain ⟨ip, rfl⟩ : ∃ ip, ip = a := ⟨_, rfl⟩
 rw [hc]
 have hz := Zoa ha
 refine ZbU (n := 34) [] Tryz.func82 rfl rfl rfl ?_
 intro a w F M hwW
 refine ZaB (Zaf ?_)
 (refine sD F (Zft M (F.e rfl) rfl ?_);clear F M;intro b2 w M a F)
 (refine sD F (Zdk M ?_);clear F M;intro b4 w M a F)
 with_reducible refine ZaF (Zam (ZaB (Zaf ?_)))
 refine sD F (Zaq (F.e rfl) fun a F => sD F (ZjZ (F.e rfl) (F.e rfl) fun a F => sD F (ZjY (F.e rfl) (F.e rfl) fun a F => sD F (Zau (F.e rfl) ?_))));iterate 4 clear F a
 intro a F
 with_reducible refine ZaF (Zam (ZaB (Zaf ?_)))
 refine sD F (Zaq (F.e rfl) fun a F => sD F (Zaw F rfl rfl ?_));iterate 2 clear F a
 intro a F
 rw [show (if 128 < (if n < 0 then 0 else n) then (128 : Int) else (if n < 0 then 0 else n)) = (c : Int) from hc] at F
 skip
 (refine sD F (Zdk M ?_);clear F M;intro b5 w M a F)
 (refine ZdT rfl F (ZbV M (F.e rfl) (F.e rfl) (by rfl) (by rfl) (by repeat constructor) (by rfl) (by repeat constructor) ?_);clear F M;intro w M a F)
 with_reducible refine ZaF (Zam (ZaB (ZaB (Zaf ?_))))
 refine sD F (Zau (F.e rfl) ?_);clear F a;intro a F
 with_reducible refine ZaF (Zam (ZbT ?_))
 replace M : Mem [] W w [(b5, .cells (pfC (ZbH ip ((0 : Nat) : Int)) c).toArray 65 (0, 0)), (b4, .cells (pfC Zm8 0).toArray 65 (0, 0)), (b2, .cells (ipC ip).toArray 63 (0, 0))] := by
  rw [show ((0 : Nat) : Int) = 0 from rfl, hz]
  exact M
 refine ZgK (fun k a w => ∃ i : Nat, k = c - i ∧ i ≤ c ∧ Frm a 34 [] [(6, .int .i64 i), (1, .int .i64 c), (2, .pointer (some ⟨b2, 0, none⟩)), (4, .pointer (some ⟨b4, 0, none⟩)), (5, .pointer (some ⟨b5, 0, none⟩))] ∧ Mem [] W w [(b5, .cells (pfC (ZbH ip (i : Int)) c).toArray 65 (0, 0)), (b4, .cells (pfC Zm8 0).toArray 65 (0, 0)), (b2, .cells (ipC ip).toArray 63 (0, 0))]) c ⟨0, rfl, by omega, F.only [6, 1, 2, 4, 5] rfl, M⟩ ?_
 clear F M
 rintro k a w ⟨i, hk, hi, F, M⟩
 by_cases hlt : i < c
 ·have hm8 : i % 8 < 8 := Nat.mod_lt _ (by omega)
  have n1 := Zqb (a := ip) (i := i) (by omega) (c : Int)
  have hb := ZsM ha i
  with_reducible refine ZaB (ZaB (Zaf ?_))
  refine sD F (Zaq (F.e rfl) fun a F => sD F (Zaq (F.e rfl) fun a F => sD F (ZgG (F.e rfl) (F.e rfl) (by omega) ?_)));iterate 3 clear F a
  intro a F
  with_reducible refine ZaF (Zam ?_)
  refine ZcV F rfl rfl ?_
  with_reducible refine ZcQ (Zam (ZaB (ZbT ?_)))
  refine Zfk 16 F (by kernel_rfl) ?_
  intro w1 hE hok
  have M1 := M.later hE
  refine mK hok rfl rfl (fun a' w' F' E' => Zaq (F'.e rfl) ⟨Ext.refl _ _, rfl⟩) ?_
  (refine mK hok rfl rfl (fun a' w' F' E' => Zp0 (F'.e rfl) (F'.e rfl) (by omega) (quo8 (i := i) (by omega)) ⟨Ext.refl _ _, rfl⟩) ?_)
  refine mK hok rfl rfl (fun a' w' F' E' => Zay (F'.e rfl) ⟨Ext.refl _ _, rfl⟩) (mK hok rfl rfl (fun a' w' F' E' => Zbc (F'.e rfl) (F'.e rfl) (by omega) (by omega) ⟨Ext.refl _ _, rfl⟩) (mK hok rfl rfl (fun a' w' F' E' => Zbo (M1.later E') (F'.e rfl) (by repeat constructor) ‹_› ⟨Ext.refl _ _, rfl⟩) ?_))
  refine mK hok rfl rfl (fun a' w' F' E' => Zc0 (M1.later E') (F'.e rfl) (by repeat constructor) ‹_› ⟨Ext.refl _ _, rfl⟩) ?_
  refine mK hok rfl rfl (fun a' w' F' E' => Zaq (F'.e rfl) ⟨Ext.refl _ _, rfl⟩) ?_
  (refine mK hok rfl rfl (fun a' w' F' E' => Zbh (F'.e rfl) (F'.evs rfl) (Cal.mono (Zm1 ip ha i (by omega) _) fun _ _ hh => ⟨hh.2, hh.1⟩)) ?_)
  refine mK hok rfl rfl (fun a' w' F' E' => Zaq (F'.e rfl) ⟨Ext.refl _ _, rfl⟩) ?_
  (refine mK hok rfl rfl (fun a' w' F' E' => ZmD (F'.e rfl) (F'.e rfl) (by omega) (rem8 i) ⟨Ext.refl _ _, rfl⟩) ?_)
  refine mK hok rfl rfl (fun a' w' F' E' => Zey (F'.e rfl) (ZgM (by omega) (by omega)) ⟨Ext.refl _ _, rfl⟩) (mK hok rfl rfl (fun a' w' F' E' => Zi7 (F'.e rfl) (F'.e rfl) (ZgM (by omega) (by omega)) ⟨Ext.refl _ _, rfl⟩) (mK hok rfl rfl (fun a' w' F' E' => ZnT (F'.e rfl) (F'.e rfl) (by omega) rfl ⟨Ext.refl _ _, rfl⟩) (mK hok rfl rfl (fun a' w' F' E' => o_or (F'.e rfl) (F'.e rfl) rfl ⟨Ext.refl _ _, rfl⟩) (mK hok rfl rfl (fun a' w' F' E' => Zay (F'.e rfl) ⟨Ext.refl _ _, rfl⟩) (mK hok rfl rfl (fun a' w' F' E' => Zbc (F'.e rfl) (F'.e rfl) (by omega) (by omega) ⟨Ext.refl _ _, rfl⟩) ?_)))))
  (refine Zgp rfl rfl ?_;clear F M;intro a w F hE2 hX hTT hDD hPP;have M := M1.later hE2;clear M1;clear hX;clear hE2;clear hok;clear hE;clear hTT;clear hDD;clear hPP;(try dsimp only at F))
  (refine ZdT rfl F (Zfb M (F.e rfl) (F.e rfl) rfl (by repeat constructor) (ZpR ha (by omega) _) (by repeat constructor) ?_);clear F M;intro w M a F)
  with_reducible refine ZaF (Zmy (Zam (Zaf ?_)))
  refine sD F (Zaq (F.e rfl) fun a F => sD F (ZgN (F.e rfl) (F.e rfl) (Zax (by omega) (by omega)) fun a F => sD F (Zau (F.e rfl) ?_)));iterate 3 clear F a
  intro a F
  with_reducible refine ZaF (Zam ?_)
  refine ⟨_, by omega, i + 1, rfl, by omega, F.only [6, 1, 2, 4, 5] rfl, ?_⟩
  rw [show ((i + 1 : Nat) : Int) = (i : Int) + 1 by omega]
  exact M
 ·obtain rfl : i = c := by omega
  have s2 := ZjK (Zbs ip (i : Int)) (i : Int)
  with_reducible refine ZaB (ZaB (Zaf ?_))
  refine sD F (Zaq (F.e rfl) fun a F => sD F (Zaq (F.e rfl) fun a F => sD F (Zhq (F.e rfl) (F.e rfl) (by omega) ?_)));iterate 3 clear F a
  intro a F
  with_reducible refine ZaF (Zam ?_)
  refine Zcm F rfl rfl ?_
  with_reducible refine Zf6 (ZcM (ZcM (ZgD (Zam (ZaB (Zaf ?_))))))
  refine sD F (Zc0 M (F.e rfl) (by repeat constructor) ‹_› ?_);clear F a;intro a F
  (refine ZdT rfl F (ZbV M (F.e rfl) (F.e rfl) (ZeP (Zbs ip (i : Int)) i) (ZlI _ _)  (by repeat constructor)  (Zag (by rw [ZeP (Zbs ip (i : Int)) i];rfl)) (by repeat constructor) ?_);clear F M;intro w M a F)
  with_reducible refine ZaF (Zam (Zb6 ?_))
  refine Zb3 F rfl (.cons (.cell (F.e rfl) (ZaP TAgg.h (M.heap (by repeat constructor)) s2)) .nil) ⟨rfl, M.ext⟩
theorem ZnH (p q : List Int) (hp : IsIP p) (hq : IsIP q) (W : World) : Cal Tryz.prog 295 [.agg (ipC p).toArray, .agg (ipC q).toArray].toArray W fun v w' => v = .int .i64 (Zdn p q) ∧ Ext [] W w' := by
 have e1 := Zbw (ZaU hp.len)
 have e2 := Zbw (ZaU hq.len)
 refine ZbU (n := 20) [] Tryz.func295 rfl rfl rfl ?_
 intro a w F M hwW
 refine ZaB (Zaf ?_)
 (refine sD F (Zft M (F.e rfl) rfl ?_);clear F M;intro b2 w M a F)
 (refine sD F (Zft M (F.e rfl) rfl ?_);clear F M;intro b3 w M a F)
 refine sD F (Zau (F.e rfl) ?_);clear F a;intro a F
 with_reducible refine ZaF (Zam (ZaB (Zaf ?_)))
 refine sD F (Zau (F.e rfl) ?_);clear F a;intro a F
 with_reducible refine ZaF (Zam (ZaB (ZbT ?_)))
 refine ZgK (fun k a w => ∃ i : Nat, k = 128 - i ∧ i ≤ 128 ∧ (∀ j, j < i → bitI p j = bitI q j) ∧ Frm a 20 [] [(5, .int .i64 i), (2, .pointer (some ⟨b2, 0, none⟩)), (3, .pointer (some ⟨b3, 0, none⟩))] ∧ Mem [] W w [(b3, .cells (ipC q).toArray 63 (0, 0)), (b2, .cells (ipC p).toArray 63 (0, 0))]) 128 ⟨0, rfl, by omega, fun j h => by omega, F.only [5, 2, 3] rfl, M⟩ ?_
 clear F M
 rintro k a w ⟨i, hk, hi, hall, F, M⟩
 by_cases hlt : i < 128
 ·by_cases hb : bitI p i = bitI q i
  ·refine ZaB ?_
   refine ZaB (Zfk 11 F (by kernel_rfl) ?_)
   intro w1 hE hok
   have M1 := M.later hE
   refine mK hok rfl rfl (fun a' w' F' E' => Zaq (F'.e rfl) ⟨Ext.refl _ _, rfl⟩) (mK hok rfl rfl (fun a' w' F' E' => ZgG (F'.e rfl) (F'.e rfl) (by omega) ⟨Ext.refl _ _, rfl⟩) (mK hok rfl rfl (fun a' w' F' E' => Zaq (F'.e rfl) ⟨Ext.refl _ _, rfl⟩) (mKG hok rfl rfl rfl rfl (fun a' w' F' E' => Zc0 (M1.later E') (F'.e rfl) (by repeat constructor) ‹_› ⟨Ext.refl _ _, rfl⟩) ?_)))
   refine mKG hok rfl rfl rfl rfl (fun a' w' F' E' => Zaq (F'.e rfl) ⟨Ext.refl _ _, rfl⟩) ?_
   (refine mKG hok rfl rfl rfl rfl (fun a' w' F' E' => Zbh (F'.e rfl) (F'.evs rfl) (Cal.mono (Zm1 p hp i hlt _) fun _ _ hh => ⟨hh.2, hh.1⟩)) ?_)
   refine mKG hok rfl rfl rfl rfl (fun a' w' F' E' => Zc0 (M1.later E') (F'.e rfl) (by repeat constructor) ‹_› ⟨Ext.refl _ _, rfl⟩) ?_
   refine mKG hok rfl rfl rfl rfl (fun a' w' F' E' => Zaq (F'.e rfl) ⟨Ext.refl _ _, rfl⟩) ?_
   (refine mKG hok rfl rfl rfl rfl (fun a' w' F' E' => Zbh (F'.e rfl) (F'.evs rfl) (Cal.mono (Zm1 q hq i hlt _) fun _ _ hh => ⟨hh.2, hh.1⟩)) ?_)
   refine mKG hok rfl rfl rfl rfl (fun a' w' F' E' => ZtA (F'.e rfl) (F'.e rfl) (by omega) ⟨Ext.refl _ _, rfl⟩) (mK hok rfl rfl (fun a' w' F' E' => Zfs (F'.e rfl) (F'.e rfl) ⟨Ext.refl _ _, rfl⟩) ?_)
   (refine Zgp rfl rfl ?_;clear F M;intro a w F hE2 hX hTT hDD hPP;have M := M1.later hE2;clear M1;clear hX;clear hE2;clear hok;clear hE;clear hTT;clear hDD;clear hPP;(try dsimp only at F))
   with_reducible refine ZaF (Zam ?_)
   refine ZcV F rfl rfl ?_
   with_reducible refine ZcQ (Zam (ZbT (Zaf ?_)))
   refine sD F (Zaq (F.e rfl) fun a F => sD F (ZgN (F.e rfl) (F.e rfl) (Zax (by omega) (by omega)) fun a F => sD F (Zau (F.e rfl) ?_)));iterate 3 clear F a
   intro a F
   with_reducible refine ZaF (Zmy (Zam ?_))
   refine ⟨_, by omega, i + 1, rfl, by omega, fun j h => ?_, F.only [5, 2, 3] rfl, M⟩
   by_cases e : j = i
   ·subst e;exact hb
   ·exact hall j (by omega)
  ·refine ZaB ?_
   refine ZaB (Zfk 11 F (by kernel_rfl) ?_)
   intro w1 hE hok
   have M1 := M.later hE
   refine mK hok rfl rfl (fun a' w' F' E' => Zaq (F'.e rfl) ⟨Ext.refl _ _, rfl⟩) (mK hok rfl rfl (fun a' w' F' E' => ZgG (F'.e rfl) (F'.e rfl) (by omega) ⟨Ext.refl _ _, rfl⟩) (mK hok rfl rfl (fun a' w' F' E' => Zaq (F'.e rfl) ⟨Ext.refl _ _, rfl⟩) (mKG hok rfl rfl rfl rfl (fun a' w' F' E' => Zc0 (M1.later E') (F'.e rfl) (by repeat constructor) ‹_› ⟨Ext.refl _ _, rfl⟩) ?_)))
   refine mKG hok rfl rfl rfl rfl (fun a' w' F' E' => Zaq (F'.e rfl) ⟨Ext.refl _ _, rfl⟩) ?_
   (refine mKG hok rfl rfl rfl rfl (fun a' w' F' E' => Zbh (F'.e rfl) (F'.evs rfl) (Cal.mono (Zm1 p hp i hlt _) fun _ _ hh => ⟨hh.2, hh.1⟩)) ?_)
   refine mKG hok rfl rfl rfl rfl (fun a' w' F' E' => Zc0 (M1.later E') (F'.e rfl) (by repeat constructor) ‹_› ⟨Ext.refl _ _, rfl⟩) ?_
   refine mKG hok rfl rfl rfl rfl (fun a' w' F' E' => Zaq (F'.e rfl) ⟨Ext.refl _ _, rfl⟩) ?_
   (refine mKG hok rfl rfl rfl rfl (fun a' w' F' E' => Zbh (F'.e rfl) (F'.evs rfl) (Cal.mono (Zm1 q hq i hlt _) fun _ _ hh => ⟨hh.2, hh.1⟩)) ?_)
   refine mKG hok rfl rfl rfl rfl (fun a' w' F' E' => Zrl (F'.e rfl) (F'.e rfl) (by omega) ⟨Ext.refl _ _, rfl⟩) (mK hok rfl rfl (fun a' w' F' E' => Zfs (F'.e rfl) (F'.e rfl) ⟨Ext.refl _ _, rfl⟩) ?_)
   (refine Zgp rfl rfl ?_;clear F M;intro a w F hE2 hX hTT hDD hPP;have M := M1.later hE2;clear M1;clear hX;clear hE2;clear hok;clear hE;clear hTT;clear hDD;clear hPP;(try dsimp only at F))
   with_reducible refine ZaF (Zam ?_)
   refine Zcm F rfl rfl ?_
   with_reducible refine Zf6 (ZcM (ZcM (ZgD (Zam (ZaB (Zaf ?_))))))
   refine sD F (Zaq (F.e rfl) fun a F => sD F (Zau (F.e rfl) ?_));iterate 2 clear F a
   intro a F
   with_reducible refine ZaF (Zam (Zb6 ?_))
   refine Zb3 F rfl (.cons (.tmp (F.e rfl)) .nil) ?_
   exact ⟨by rw [Zkl hp hq (by omega) hall (fun _ => hb)];rfl, M.ext⟩
 ·obtain rfl : i = 128 := by omega
  with_reducible refine ZaB (ZaB ?_)
  refine Zfk 11 F (by kernel_rfl) ?_
  intro w1 hE hok
  have M1 := M.later hE
  refine mK hok rfl rfl (fun a' w' F' E' => Zaq (F'.e rfl) ⟨Ext.refl _ _, rfl⟩) (mK hok rfl rfl (fun a' w' F' E' => Zhq (F'.e rfl) (F'.e rfl) (by omega) ⟨Ext.refl _ _, rfl⟩) (mK hok rfl rfl (fun a' w' F' E' => Zaq (F'.e rfl) ⟨Ext.refl _ _, rfl⟩) (mOff hok rfl rfl rfl rfl rfl (mOff hok rfl rfl rfl rfl rfl (mOff hok rfl rfl rfl rfl rfl (mOff hok rfl rfl rfl rfl rfl (mOff hok rfl rfl rfl rfl rfl (mOff hok rfl rfl rfl rfl rfl (mOff hok rfl rfl rfl rfl rfl (mK hok rfl rfl (fun a' w' F' E' => ZdX (F'.e rfl) (F'.e rfl) ⟨Ext.refl _ _, rfl⟩) ?_))))))))))
  (refine Zgp rfl rfl ?_;clear F M;intro a w F hE2 hX hTT hDD hPP;have M := M1.later hE2;clear M1;clear hX;clear hE2;clear hok;clear hE;clear hTT;clear hDD;clear hPP;(try dsimp only at F))
  with_reducible refine ZaF (Zam ?_)
  refine Zcm F rfl rfl ?_
  with_reducible refine Zf6 (ZcM (ZcM (ZgD (Zam (ZaB (Zaf ?_))))))
  refine sD F (Zaq (F.e rfl) fun a F => sD F (Zau (F.e rfl) ?_));iterate 2 clear F a
  intro a F
  with_reducible refine ZaF (Zam (Zb6 ?_))
  refine Zb3 F rfl (.cons (.tmp (F.e rfl)) .nil) ?_
  exact ⟨by rw [Zkl hp hq (n := 128) (by omega) hall (fun h => by omega)];rfl, M.ext⟩
end
section
open Go.RowKit
attribute [local irreducible] OpTo wpListIn Code.wpIn MW Cal
end
section
open Go.RowKit
attribute [local irreducible] OpTo wpListIn Code.wpIn MW Cal
end
section
open Go.RowKit
attribute [local irreducible] OpTo wpListIn Code.wpIn MW Cal
theorem IsIP.set {ip : List Int} (h : IsIP ip) (i : Nat) {x : Int} (h0 : 0 ≤ x) (h1 : x < 256) : IsIP (ip.set i x) :=
 ⟨by rw [List.length_set];exact h.len, fun y hy => by
  rcases List.mem_or_eq_of_mem_set hy with hy | rfl
  ·exact h.bd y hy
  ·exact ⟨h0, h1⟩⟩
end
section
open Go.RowKit
def Ze8 (p : List Int) (n : Int) (a : List Int) : Bool := ZbO p n && decide (n ≤ Zdn p a)
theorem ZjQ {p q : List Int} {n : Int} (hp : IsIP p) (hq : IsIP q) : Ze8 p n q = Zbu p n q := by
 unfold Ze8
 cases hv : ZbO p n with
 | false => simp [Zbu, hv]
 | true =>
  have hb := ZjD hv
  have hm : ZbH p n = p := by
   simp only [ZbO, Bool.and_eq_true, beq_iff_eq] at hv
   exact hv.2
  have := ZhF hp hq hb.1 hb.2
  rw [hm] at this
  rw [this];simp
end
section
open Go.RowKit
attribute [local irreducible] OpTo wpListIn Code.wpIn MW Cal
theorem ZdI (p : List Int) (n : Int) (hp : IsIP p) (q : List Int) (hq : IsIP q) (W : World) : Cal Tryz.prog 224 [.agg (pfC p n).toArray, .agg (ipC q).toArray].toArray W fun v w' => v = .bool (Zbu p n q) ∧ Ext [] W w' := by
 rw [← ZjQ hp hq]
 have l1 := hp.len
 have e1 := ZjK hp.len n
 have e2 := Zgf hp.len n
 have e3 := Ziw hp.len n
 have e4 := Zbw (ZaU hq.len)
 refine Zao (n := 16) (S := []) Zal Zak Tryz.func224 rfl rfl rfl ?_
 cases hv : ZbO p n
 ·refine gR 2 rfl ?_
  refine ZaA rfl rfl fun b2 => ZaA rfl rfl fun b3 => gR 4 rfl (ZaG 12 16 rfl (by kernel_rfl) (ZaN 1 rfl rfl (by with_reducible assumption) ?_))
  refine ZaH rfl rfl (fun w M => ZbR _ _ ‹_› _) ?_
  refine fR 1 rfl (ZaX 7 rfl ‹_› ?_)
  refine fR 9 rfl (Zap rfl rfl (gR 3 rfl (Zab rfl rfl rfl fun w M => ?_)))
  exact ⟨by show Value.bool _ = Value.bool _;simp [Ze8, hv], M.ext⟩
 ·refine gR 2 rfl ?_
  refine ZaA rfl rfl fun b2 => ZaA rfl rfl fun b3 => gR 4 rfl (ZaG 12 16 rfl (by kernel_rfl) (ZaN 1 rfl rfl (by with_reducible assumption) ?_))
  refine ZaH rfl rfl (fun w M => ZbR _ _ ‹_› _) ?_
  refine fR 1 rfl (ZaX 7 rfl ‹_› ?_)
  refine fR 1 rfl (ZaN 1 rfl rfl (by with_reducible assumption) ?_)
  refine ZaN 0 rfl rfl (by with_reducible assumption) ?_
  refine ZaH rfl rfl (fun w M => ZnH _ _ ‹_› ‹_› _) ?_
  refine fR 1 rfl (ZaW 1 rfl rfl (by with_reducible assumption) ?_)
  refine fR 3 rfl (Zap rfl rfl (gR 3 rfl (Zab rfl rfl rfl fun w M => ?_)))
  exact ⟨by show Value.bool _ = Value.bool _;simp [Ze8, hv], M.ext⟩
end
theorem Zg3 (x y : Int) (W : World) : Cal Tryz.prog 184 [.int .i64 x, .int .i64 y].toArray W fun v w' => v = .int .i64 (cmpV x y) ∧ Ext [] W w' := Zlg x y W
theorem ZqW (x y : Int) (W : World) : Cal Tryz.prog 185 [.int .u64 x, .int .u64 y].toArray W fun v w' => v = .int .i64 (cmpV x y) ∧ Ext [] W w' := Zo1 x y W
section
open Go.RowKit
attribute [local irreducible] OpTo wpListIn Code.wpIn MW Cal
theorem Zku (m n : Int) : 0 ≤ ZbK .xor .u8 m n ∧ ZbK .xor .u8 m n < 256 := by
 unfold ZbK
 simp only [IntKind.wrap, IntKind.signed, IntKind.bits, Bool.false_and, Bool.false_eq_true, if_false]
 omega
theorem Zsd {bt : Nat} {p : Option Addr} {len cap k : Nat} {xs : List Int} (n : Int) (hn : 0 < n) (hn2 : n ≤ 9223372036854775807) (W : World) (hT : ZcG W bt p len xs) (hb : W.heap[bt]? = some (tobj p len cap k)) :
  Cal Tryz.prog 28 [.pointer (some ⟨bt, 0, none⟩), .int .i64 n].toArray W fun v w' => ∃ x k', v = .int .i64 x ∧ (0 ≤ x ∧ x < n) ∧ Mem [bt] W w' [(bt, tobj p len cap k')] :=
 Cal.mono (Zba n hn hn2 W hT hb) fun _ _ h => ⟨_, _, h.1, Zbm _ _ hn, h.2⟩
theorem ZsK {bt : Nat} {p : Option Addr} {len cap k : Nat} {xs : List Int} (n : Int) (hn : 0 < n) (hn2 : n ≤ 9223372036854775807) (W : World) (hT : ZcG W bt p len xs) (hb : W.heap[bt]? = some (tobj p len cap k)) :
  Cal Tryz.prog 14 [.pointer (some ⟨bt, 0, none⟩), .int .i64 n].toArray W fun v w' => ∃ x k', v = .bool x ∧ Mem [bt] W w' [(bt, tobj p len cap k')] :=
 Cal.mono (Zfm n hn hn2 W hT hb) fun _ _ h => ⟨_, _, h.1, h.2⟩
theorem Zuz {bt : Nat} {p : Option Addr} {len cap k : Nat} {xs : List Int} (W : World) (hT : ZcG W bt p len xs) (hb : W.heap[bt]? = some (tobj p len cap k)) :
  Cal Tryz.prog 25 [.pointer (some ⟨bt, 0, none⟩)].toArray W fun v w' => ∃ x k', v = .int .u64 x ∧ (1 ≤ x ∧ x ≤ 5) ∧ Mem [bt] W w' [(bt, tobj p len cap k')] := by
 refine ZbU (n := 7) [bt] Tryz.func25 rfl rfl rfl ?_
 intro a w F M hwW
 replace M := M.came hwW hb (by simp) (by simp)
 refine ZaB (Zaf ?_)
 refine sD F (Zau (F.e rfl) ?_);clear F a;intro a F
 with_reducible refine ZaF (Zam (ZaB (Zaf ?_)))
 refine sD F (Zaq (F.e rfl) ?_);clear F a;intro a F
 (refine sD F (Zbh (F.e rfl) (F.evs rfl) (Cal.mono (Zsd 5 (by omega) (by omega) _ (hT.later M.ext) (M.heap .here) ) ?_));clear F;clear a;have M0 := M;clear M;rintro _ w ⟨x, k', rfl, hx, N⟩ a F)
 replace M := M0.turn1 N .here
 refine sD F (ZgN (F.e rfl) (F.e rfl) (Zax (by omega) (by omega)) fun a F => sD F (Zey (F.e rfl) (ZgM (by omega) (by omega)) fun a F => sD F (Zau (F.e rfl) ?_)));iterate 3 clear F a
 intro a F
 with_reducible refine ZaF (Zam (Zb6 ?_))
 exact Zb3 F rfl (.cons (.tmp (F.e rfl)) .nil) (⟨1 + x, k', rfl, by omega, M⟩)
def Za5 (t : Int) : Bool := decide (0 ≤ t) && decide (t ≤ 1099511627776)
def Zcx (a d : Int) : Int := if 1099511627776 < a + d then 1099511627776 else a + d
theorem Zfl {v u : Value} {n m : Nat} {xs ys : List Int} (W : World) (h : SlAt W 1 v n (ipC xs)) (k : SlAt W 1 u m (ipC ys)) (hx : ∀ x ∈ xs, 0 ≤ x ∧ x < 256) (hy : ∀ x ∈ ys, 0 ≤ x ∧ x < 256) :
  Cal Tryz.prog 183 [v, u].toArray W fun x w' => x = .int .i64 (cmpL xs ys) ∧ Ext [] W w' := by
 refine ZbU (n := 8) [] Tryz.func183 rfl rfl rfl ?_
 intro a w F M hwW
 refine ZaB (Zaf ?_)
 refine sD F (Zau (F.e rfl) ?_);clear F a;intro a F
 with_reducible refine ZaF (Zam (ZaB (Zaf ?_)))
 refine sD F (Zaq (F.e rfl) fun a F => sD F (Zaq (F.e rfl) ?_));iterate 2 clear F a
 intro a F
 (refine sD F (Zsa (F.e rfl) Tryz.func279 (by kernel_rfl) (by kernel_rfl) (by kernel_rfl) (e := Extern.BytealgCompare.compare) (by kernel_rfl) (F.evs rfl) (Zkz (h.later M.ext) (k.later M.ext) hx hy) ?_);clear F a;intro a F)
 refine sD F (Zau (F.e rfl) ?_);clear F a;intro a F
 with_reducible refine ZaF (Zam (Zb6 ?_))
 exact Zb3 F rfl (.cons (.tmp (F.e rfl)) .nil) (⟨rfl, M.ext⟩)
def ZpV (p : List Int) (n : Int) (q : List Int) (m : Int) : Bool := Zlf p n q m || Zlf q m p n
end
section
open Go.RowKit
attribute [local irreducible] OpTo wpListIn Code.wpIn MW Cal
structure Zq5 where
 ip : List Int
 bits : Int
 own : Int
 til : Int
end
section
open Go.RowKit
attribute [local irreducible] OpTo wpListIn Code.wpIn MW Cal
end
section
open Go.RowKit
attribute [local irreducible] OpTo wpListIn Code.wpIn MW Cal
structure ZsV (p : List Int) (n : Int) (l : Zq5) : Prop where
 ip : IsIP l.ip
 own0 : l.own ≠ 0
 own1 : 0 ≤ l.own ∧ l.own ≤ 18446744073709551615
 til : Za5 l.til = true
 bits : l.bits ≤ 64
 cov : Zlf p n l.ip l.bits = true
structure Zpl (p : List Int) (n : Int) (ls : List Zq5) : Prop where
 ip : IsIP p
 pre : ZbO p n = true
 bits : n ≤ 64
 len : ls.length ≤ 64
 each : ∀ l ∈ ls, ZsV p n l
 pw : ls.Pairwise fun x y => cmpL x.ip y.ip < 0 ∧ ZpV x.ip x.bits y.ip y.bits = false
end
section
open Go.RowKit
attribute [local irreducible] OpTo wpListIn Code.wpIn MW Cal
end
section
open Go.RowKit
attribute [local irreducible] OpTo wpListIn Code.wpIn MW Cal
theorem Zpl.filter {p : List Int} {n : Int} {ls : List Zq5} (h : Zpl p n ls) (f : Zq5 → Bool) : Zpl p n (ls.filter f) :=
 ⟨h.ip, h.pre, h.bits, Nat.le_trans (List.length_filter_le _ _) h.len, fun l hl => h.each l (List.mem_filter.1 hl).1, h.pw.filter _⟩
end
section
open Go.RowKit
attribute [local irreducible] OpTo wpListIn Code.wpIn MW Cal
end
section
open Go.RowKit
structure PInf where
 ip : List Int
 bits : Int
 onl : Bool
 aut : Bool
 life : Int
 deriving DecidableEq
def piC (o : PInf) : List Value := pfC o.ip o.bits ++ ([.bool o.onl, .bool o.aut, .int .u32 o.life])
def IsPi (o : PInf) : Prop := IsIP o.ip
abbrev pisC (l : List PInf) : List Value := encL piC l
structure CInf where
 id : Int
 ip : List Int
 bits : Int
 cmp : Bool
 life : Int
 deriving DecidableEq
def ciC (o : CInf) : List Value := [.int .i64 o.id] ++ (pfC o.ip o.bits ++ ([.bool o.cmp, .int .u16 o.life]))
def IsCi (o : CInf) : Prop := IsIP o.ip
abbrev cisC (l : List CInf) : List Value := encL ciC l
structure OffH where
 rt : List Int
 ver : Int
 til : Int
 deriving DecidableEq
def ofC (o : OffH) (ps : Value) (cs : Value) : List Value := ipC o.rt ++ ([.int .i64 o.ver, .int .i64 o.til, ps, cs])
def IsOf (o : OffH) : Prop := IsIP o.rt
end
section
open Go.RowKit
attribute [local irreducible] OpTo wpListIn Code.wpIn MW Cal
structure Off where
 h : OffH
 ps : List PInf
 cs : List CInf
 deriving DecidableEq
def ZuE (o : Off) : Prop := IsOf o.h ∧ (∀ p ∈ o.ps, IsPi p) ∧ ∀ c ∈ o.cs, IsCi c
structure OV where
 o : Off
 u : Value
 v : Value
def ovC (x : OV) : List Value := ofC x.o.h x.u x.v
def Zh3 (W : World) (x : OV) : Prop := SlAt W 20 x.u x.o.ps.length (pisC x.o.ps) ∧ SlAt W 20 x.v x.o.cs.length (cisC x.o.cs)
theorem Zh3.later {W w : World} {x : OV} (h : Zh3 W x) (E : Ext [] W w) : Zh3 w x := ⟨h.1.later E, h.2.later E⟩
end
section
open Go.RowKit
attribute [local irreducible] OpTo wpListIn Code.wpIn MW Cal
theorem Zbd (t : Int) (W : World) : Cal Tryz.prog 74 [.int .i64 t].toArray W fun v w' => v = .bool (Za5 t) ∧ Ext [] W w' := by
 unfold Za5
 by_cases h : 0 ≤ t
 ·rw [dqT h, Bool.true_and]
  exact Zao (n := 9) (S := []) Zal Zak Tryz.func74 rfl rfl rfl (gR 10 rfl (ZaQ 5 rfl (dqT (by omega)) (gR 7 rfl (Zab rfl rfl rfl fun w M => ⟨rfl, M.ext⟩))))
 ·rw [dqF h, Bool.false_and]
  exact Zao (n := 9) (S := []) Zal Zak Tryz.func74 rfl rfl rfl (gR 10 rfl (ZaQ 5 rfl (dqF (by omega)) (gR 7 rfl (Zab rfl rfl rfl fun w M => ⟨rfl, M.ext⟩))))
theorem ZgU (a d : Int) (h0 : 0 ≤ a) (h1 : a ≤ 1099511627776) (d0 : 0 ≤ d) (d1 : d ≤ 1099511627776) (W : World) : Cal Tryz.prog 93 [.int .i64 a, .int .i64 d].toArray W fun v w' => v = .int .i64 (Zcx a d) ∧ Ext [] W w' := by
 exact Zao (n := 9) (S := []) Zal Zak Tryz.func93 rfl rfl rfl (gR 9 rfl (ZaK rfl rfl (Zax (by omega) (by omega)) (g_v (fun a w F M R r => ZjY (F.e rfl) (F.e rfl) r) (gR 4 rfl (Zab rfl rfl rfl fun w M => ⟨rfl, M.ext⟩)))))
theorem ZhJ {p q : List Int} : ∀ (i : Nat), i ≤ p.length → p.length = q.length → (∀ j, j < i → p.getD j 0 = q.getD j 0) → cmpL p q = cmpL (p.drop i) (q.drop i)
 | 0, _, _, _ => by simp
 | i + 1, h1, h2, h => by
  rw [ZhJ i (by omega) h2 fun j hj => h j (by omega), List.drop_eq_getElem_cons (show i < p.length by omega), List.drop_eq_getElem_cons (show i < q.length by omega)]
  have := h i (by omega)
  simp only [List.getD_eq_getElem?_getD, List.getElem?_eq_getElem (show i < p.length by omega), List.getElem?_eq_getElem (show i < q.length by omega), Option.getD_some] at this
  simp [cmpL, this]
theorem Zo3 {p q : List Int} {i : Nat} (h1 : i < p.length) (h2 : p.length = q.length) (h : ∀ j, j < i → p.getD j 0 = q.getD j 0) : cmpL p q = if p.getD i 0 < q.getD i 0 then -1 else if q.getD i 0 < p.getD i 0 then 1 else cmpL (p.drop (i + 1)) (q.drop (i + 1)) := by
 rw [ZhJ i (by omega) h2 h, List.drop_eq_getElem_cons (show i < p.length by omega), List.drop_eq_getElem_cons (show i < q.length by omega)]
 simp [cmpL, List.getD_eq_getElem?_getD, List.getElem?_eq_getElem (show i < p.length by omega), List.getElem?_eq_getElem (show i < q.length by omega)]
theorem ZdP (p q : List Int) (hp : IsIP p) (hq : IsIP q) (W : World) : Cal Tryz.prog 282 [.agg (ipC p).toArray, .agg (ipC q).toArray].toArray W fun x w' => x = .int .i64 (cmpL p q) ∧ Ext [] W w' := by
 have l1 := hp.len
 have l2 := hq.len
 refine Zao (n := 24) (S := []) Zal Zak Tryz.func282 rfl rfl rfl (gR 2 rfl (ZaA rfl rfl fun b2 => ZaA rfl rfl fun b3 => gR 10 rfl (Za1 (ι := Nat) ⟨fun i => 16 - i, fun i => i ≤ 16 ∧ (∀ j, j < i → p.getD j 0 = q.getD j 0), fun i => [(5, .int .i64 i), (3, .pointer (some ⟨b3, 0, none⟩)), (2, .pointer (some ⟨b2, 0, none⟩))], fun i => [[(b3, .cells (ipC q).toArray 63 (0, 0))], [(b2, .cells (ipC p).toArray 63 (0, 0))]]⟩ 0 ⟨by omega, by omega⟩ (fun a F => F.only [5, 3, 2] rfl) (sX 17179869183 rfl) ?_)))
 rintro i ⟨hi, hv⟩
 by_cases hlt : i < 16
 ·have hst := Zo3 (by omega) (by omega) hv
  have f1 : nth (ipC p) (0 + (i : Int).toNat * 1) = some (.int .u8 (p.getD i 0)) := ZkW hp hlt (by omega)
  have f2 : nth (ipC q) (0 + (i : Int).toNat * 1) = some (.int .u8 (q.getD i 0)) := ZkW hq hlt (by omega)
  by_cases c1 : p.getD i 0 < q.getD i 0
  ·rw [if_pos c1] at hst
   rw [hst]
   refine gR 7 rfl (ZaE rfl (dqT (by omega)) (gR 6 rfl (ZaG 7 24 rfl (by kernel_rfl) (fR 1 rfl (fd_v (fun a w F M R r => Zbc (F.e rfl) (F.e rfl) (by omega) (by omega) r) (ZaW 1 rfl rfl (by with_reducible assumption) ?_))))))
   refine fR 1 rfl (fd_v (fun a w F M R r => Zbc (F.e rfl) (F.e rfl) (by omega) (by omega) r) (ZaW 0 rfl rfl (by with_reducible assumption) ?_))
   exact fR 1 rfl (Zap rfl rfl (gR 2 rfl (ZaE rfl (dqT (by omega)) (gR 9 rfl (ZaM (gR 2 rfl (Zab rfl rfl rfl fun w M => ⟨rfl, M.ext⟩)))))))
  ·rw [if_neg c1] at hst
   by_cases c2 : q.getD i 0 < p.getD i 0
   ·rw [if_pos c2] at hst
    rw [hst]
    refine gR 7 rfl (ZaE rfl (dqT (by omega)) (gR 6 rfl (ZaG 7 24 rfl (by kernel_rfl) (fR 1 rfl (fd_v (fun a w F M R r => Zbc (F.e rfl) (F.e rfl) (by omega) (by omega) r) (ZaW 1 rfl rfl (by with_reducible assumption) ?_))))))
    refine fR 1 rfl (fd_v (fun a w F M R r => Zbc (F.e rfl) (F.e rfl) (by omega) (by omega) r) (ZaW 0 rfl rfl (by with_reducible assumption) ?_))
    refine fR 1 rfl (Zap rfl rfl (gR 2 rfl (Zav rfl (dqF (by omega)) (gR 3 rfl (ZaG 7 24 rfl (by kernel_rfl) (fR 1 rfl (fd_v (fun a w F M R r => Zbc (F.e rfl) (F.e rfl) (by omega) (by omega) r) (ZaW 1 rfl rfl (by with_reducible assumption) ?_))))))))
    refine fR 1 rfl (fd_v (fun a w F M R r => Zbc (F.e rfl) (F.e rfl) (by omega) (by omega) r) (ZaW 0 rfl rfl (by with_reducible assumption) ?_))
    exact fR 1 rfl (Zap rfl rfl (gR 2 rfl (ZaE rfl (dqT (by omega)) (gR 8 rfl (ZaM (gR 2 rfl (Zab rfl rfl rfl fun w M => ⟨rfl, M.ext⟩)))))))
   ·refine gR 7 rfl ?_
    refine ZaE rfl (dqT (by omega)) (gR 6 rfl (ZaG 7 24 rfl (by kernel_rfl) (fR 1 rfl (fd_v (fun a w F M R r => Zbc (F.e rfl) (F.e rfl) (by omega) (by omega) r) (ZaW 1 rfl rfl (by with_reducible assumption) ?_)))))
    refine fR 1 rfl (fd_v (fun a w F M R r => Zbc (F.e rfl) (F.e rfl) (by omega) (by omega) r) (ZaW 0 rfl rfl (by with_reducible assumption) ?_))
    refine fR 1 rfl (Zap rfl rfl (gR 2 rfl (Zav rfl (dqF (by omega)) (gR 3 rfl (ZaG 7 24 rfl (by kernel_rfl) (fR 1 rfl (fd_v (fun a w F M R r => Zbc (F.e rfl) (F.e rfl) (by omega) (by omega) r) (ZaW 1 rfl rfl (by with_reducible assumption) ?_))))))))
    refine fR 1 rfl (fd_v (fun a w F M R r => Zbc (F.e rfl) (F.e rfl) (by omega) (by omega) r) (ZaW 0 rfl rfl (by with_reducible assumption) ?_))
    exact fR 1 rfl (Zap rfl rfl (gR 2 rfl (Zav rfl (dqF (by omega)) (gR 5 rfl (ZaK rfl rfl (Zax (by omega) (by omega)) (gR 2 rfl (Zar (i + 1) ⟨by omega, fun j hj => (Nat.lt_or_ge j i).elim (hv j) fun h1 => (show i = j by omega) ▸ (show p.getD i 0 = q.getD i 0 by omega)⟩ (by dsimp only;omega) (fun a F => F.only [5, 3, 2] rfl) (sX 17179869183 rfl))))))))
 ·obtain rfl : i = 16 := by omega
  have : cmpL p q = 0 := by rw [ZhJ 16 (by omega) (by omega) hv, List.drop_eq_nil_of_le (by omega), List.drop_eq_nil_of_le (by omega)];rfl
  rw [this]
  exact gR 10 rfl (ZaZ (gR 8 rfl (Zab rfl rfl rfl fun w M => ⟨rfl, M.ext⟩)))
end
section
open Go.RowKit
attribute [local irreducible] OpTo wpListIn Code.wpIn MW Cal
def insO (o : Off) : List Off → Option (List Off)
 | [] => some [o]
 | y :: ys =>
  if cmpL y.h.rt o.h.rt < 0 then (insO o ys).map (y :: ·)
  else if cmpL y.h.rt o.h.rt = 0 then
   (if o.h.ver < y.h.ver then none else if y.h.ver = o.h.ver then some ({ y with h := { y.h with til := if y.h.til < o.h.til then o.h.til else y.h.til } } :: ys) else some (o :: ys))
  else some (o :: y :: ys)
def Asc (os : List Off) : Prop := os.Pairwise fun a b => cmpL a.h.rt b.h.rt < 0
theorem Asc.filter {os : List Off} (h : Asc os) (f : Off → Bool) : Asc (os.filter f) := List.Pairwise.filter _ h
def ZiU (W : World) (s : Value) (os : List Off) : Prop := ∃ zs : List OV, zs.map (·.o) = os ∧ SlAt W 20 s zs.length (encL ovC zs) ∧ ∀ z ∈ zs, Zh3 W z
theorem ZiU.nil (W : World) : ZiU W (.slice none 0 0) [] := ⟨[], rfl, SlAt.nil W 20, by simp⟩
theorem ZiU.later {W w : World} {s : Value} {os : List Off} (h : ZiU W s os) (E : Ext [] W w) : ZiU w s os := by
 obtain ⟨zs, h1, h2, h3⟩ := h
 exact ⟨zs, h1, h2.later E, fun z hz => (h3 z hz).later E⟩
def ZhT (n0 : Nat) (W : World) (s : Value) (os : List Off) : Prop := ∃ zs : List OV, zs.map (·.o) = os ∧ SlAt W 20 s zs.length (encL ovC zs) ∧ (∀ z ∈ zs, Zh3 W z) ∧ NewV n0 s ∧ ∀ z ∈ zs, NewV n0 z.u ∧ NewV n0 z.v
theorem ZhT.nil (n0 : Nat) (W : World) : ZhT n0 W (.slice none 0 0) [] := ⟨[], rfl, SlAt.nil W 20, by simp, NewV.nil _ _ _, by simp⟩
theorem ZhT.at {n0 : Nat} {W : World} {s : Value} {os : List Off} (h : ZhT n0 W s os) : ZiU W s os := by
 obtain ⟨zs, h1, h2, h3, _⟩ := h
 exact ⟨zs, h1, h2, h3⟩
end
section
open Go.RowKit
attribute [local irreducible] OpTo wpListIn Code.wpIn MW Cal
def Pl (o : Off) (placed : Bool) (out pre rest : List Off) : Prop :=
 if placed then insO o (pre ++ rest) = some (out ++ rest) ∧ ∀ y ∈ rest, 0 < cmpL y.h.rt o.h.rt
 else out = pre ∧ ∀ y ∈ pre, cmpL y.h.rt o.h.rt < 0
theorem ZlZ {o : Off} : ∀ {pre : List Off} (r : List Off), (∀ y ∈ pre, cmpL y.h.rt o.h.rt < 0) → insO o (pre ++ r) = (insO o r).map (pre ++ ·)
 | [], r, _ => by simp
 | y :: pre, r, h => by
  have ih := ZlZ r fun z hz => h z (List.mem_cons_of_mem _ hz)
  simp only [List.cons_append, insO, if_pos (h y List.mem_cons_self), ih, Option.map_map]
  rfl
theorem ZqV {a b c : List Int} (h1 : 0 ≤ cmpL a c) (h2 : cmpL a b < 0) : 0 < cmpL b c := by
 rcases Int.lt_trichotomy (cmpL b c) 0 with h | h | h
 ·exact absurd (ZdA h2 h) (by omega)
 ·rw [ZhH h] at h2;omega
 ·exact h
theorem Pl.new {o y : Off} {out pre rest : List Off} (h : Pl o false out pre (y :: rest)) (ha : Asc (y :: rest)) (hk : cmpL y.h.rt o.h.rt = 0) (hv : ¬ o.h.ver < y.h.ver) (hv2 : ¬ y.h.ver = o.h.ver) : Pl o true (out ++ [o]) (pre ++ [y]) rest := by
 simp only [Pl, Bool.false_eq_true, if_false, if_true] at *
 refine ⟨?_, fun z hz => ZqV (by omega) ((List.pairwise_cons.1 ha).1 z hz)⟩
 rw [List.append_assoc, ZlZ _ h.2, h.1]
 simp [insO, hk, hv, hv2]
theorem Pl.on {o y : Off} {out pre rest : List Off} (h : Pl o true out pre (y :: rest)) : Pl o true (out ++ [y]) (pre ++ [y]) rest := by
 simp only [Pl, if_true] at *
 exact ⟨by simpa using h.1, fun z hz => h.2 z (List.mem_cons_of_mem _ hz)⟩
end
section
open Go.RowKit
attribute [local irreducible] OpTo wpListIn Code.wpIn MW Cal
end
section
open Go.RowKit
attribute [local irreducible] OpTo wpListIn Code.wpIn MW Cal
def wip0 (xs : List Int) (k : Nat) : List Int := [32, 1, 13, 184, 0, nxV xs k 2, nxV xs (nxK xs k) 2, 0, 0, 0, 0, 0, 0, 0, 0, nxV xs (nxK xs (nxK xs k)) 6]
def wip4 (xs : List Int) (k : Nat) : Nat := nxK xs (nxK xs (nxK xs (nxK xs k)))
def wipV (xs : List Int) (k : Nat) : List Int := if Zli xs (nxK xs (nxK xs (nxK xs k))) 9 then (wip0 xs k).set (nxV xs (wip4 xs k) 16).toNat (ZbK .xor .u8 ((wip0 xs k).getD (nxV xs (wip4 xs k) 16).toNat 0) (IntKind.u8.wrap (1 * 2 ^ min (nxV xs (nxK xs (wip4 xs k)) 8).toNat IntKind.u8.bits))) else wip0 xs k
def wipK (xs : List Int) (k : Nat) : Nat := if Zli xs (nxK xs (nxK xs (nxK xs k))) 9 then nxK xs (nxK xs (wip4 xs k)) else wip4 xs k
theorem Zne (xs : List Int) (k : Nat) : IsIP (wip0 xs k) := by
 have h1 := Zbm xs k (n := 2) (by omega)
 have h2 := Zbm xs (nxK xs k) (n := 2) (by omega)
 have h3 := Zbm xs (nxK xs (nxK xs k)) (n := 6) (by omega)
 exact ⟨rfl, by intro x hx;simp [wip0] at hx;omega⟩
theorem Zfp (xs : List Int) (k : Nat) : IsIP (wipV xs k) := by
 unfold wipV
 split
 ·exact (Zne xs k).set _ (Zku _ _).1 (Zku _ _).2
 ·exact Zne xs k
theorem ZjB {bt : Nat} {p : Option Addr} {len cap k : Nat} {xs : List Int} (W : World) (hT : ZcG W bt p len xs) (hb : W.heap[bt]? = some (tobj p len cap k)) :
  Cal Tryz.prog 46 [.pointer (some ⟨bt, 0, none⟩)].toArray W fun v w' => v = .agg (ipC (wipV xs k)).toArray ∧ Mem [bt] W w' [(bt, tobj p len cap (wipK xs k))] := by
 refine ZbU (n := 28) [bt] Tryz.func46 rfl rfl rfl ?_
 intro a w F M hwW
 replace M := M.came hwW hb (by simp) (by simp)
 refine ZaB (Zaf ?_)
 (refine sD F (Zdk M ?_);clear F M;intro b2 w M a F)
 with_reducible refine ZaF (Zam (ZaB (Zaf ?_)))
 refine sD F (Zaq (F.e rfl) ?_);clear F a;intro a F
 (refine sD F (Zbh (F.e rfl) (F.evs rfl) (Cal.mono (Zba 2 (by omega) (by omega) _ (hT.later M.ext) (M.heap (.there .here)) ) ?_));clear F;clear a;have M0 := M;clear M;rintro _ w ⟨rfl, N⟩ a F)
 have hx1 := Zbm xs k (n := 2) (by omega)
 replace M := M0.turn1 N (.there .here)
 refine sD F (Zey (F.e rfl) (w_u8 (by omega) (by omega)) fun a F => sD F (Zaq (F.e rfl) ?_));iterate 2 clear F a
 intro a F
 (refine sD F (Zbh (F.e rfl) (F.evs rfl) (Cal.mono (Zba 2 (by omega) (by omega) _ (hT.later M.ext) (M.heap (.there .here)) ) ?_));clear F;clear a;have M0 := M;clear M;rintro _ w ⟨rfl, N⟩ a F)
 have hx2 := Zbm xs (nxK xs k) (n := 2) (by omega)
 replace M := M0.turn1 N (.there .here)
 refine sD F (Zey (F.e rfl) (w_u8 (by omega) (by omega)) fun a F => sD F (Zaw F rfl rfl ?_));iterate 2 clear F a
 intro a F
 (refine sD F (Zdk M ?_);clear F M;intro b3 w M a F)
 (refine ZdT rfl F (ZbV M (F.e rfl) (F.e rfl) (by rfl) (by rfl) (by repeat constructor) (by rfl) (by repeat constructor) ?_);clear F M;intro w M a F)
 with_reducible refine ZaF (Zam (ZaB (Zaf ?_)))
 refine sD F (Zaq (F.e rfl) ?_);clear F a;intro a F
 (refine sD F (Zbh (F.e rfl) (F.evs rfl) (Cal.mono (Zba 6 (by omega) (by omega) _ (hT.later M.ext) (M.heap (.there (.there .here))) ) ?_));clear F;clear a;have M0 := M;clear M;rintro _ w ⟨rfl, N⟩ a F)
 have hx3 := Zbm xs (nxK xs (nxK xs k)) (n := 6) (by omega)
 replace M := M0.turn1 N (.there (.there .here))
 refine sD F (Zey (F.e rfl) (w_u8 (by omega) (by omega)) fun a F => sD F (Zbc (F.e rfl) (F.e rfl) (by omega) (by omega) ?_));iterate 2 clear F a
 intro a F
 (refine ZdT rfl F (Zfb M (F.e rfl) (F.e rfl) rfl (by repeat constructor) (by rfl) (by repeat constructor) ?_);clear F M;intro w M a F)
 with_reducible refine ZaF (Zam (ZaB (ZaB (Zaf ?_))))
 refine sD F (Zaq (F.e rfl) ?_);clear F a;intro a F
 obtain ⟨ip, hipd, hip, M⟩ : ∃ ip, ip = wip0 xs k ∧ IsIP ip ∧ Mem [bt] W w [(bt, tobj p len cap (nxK xs (nxK xs (nxK xs k)))), (b3, .cells (ipC ip).toArray 63 (0, 0)), (b2, .cells (ipC [0, 0, 0, 0, 0, 0, 0, 0, 0, 0, 0, 0, 0, 0, 0, 0]).toArray 63 (0, 0))] :=
  ⟨wip0 xs k, rfl, ⟨rfl, by intro x hx;simp [wip0] at hx;omega⟩, M.perm ((List.Perm.refl _).trans (List.perm_append_comm (l₁ := [_, _]) (l₂ := [_])))⟩
 (refine sD F (Zbh (F.e rfl) (F.evs rfl) (Cal.mono (Zfm 9 (by omega) (by omega) _ (hT.later M.ext) (M.heap .here) ) ?_));clear F;clear a;have M0 := M;clear M;rintro _ w ⟨rfl, N⟩ a F)
 replace M := M0.turn1 N .here
 clear M0
 have e0 : seg (ipC ip) 0 16 = some (ipC ip) := Zbw (ZaU hip.len)
 rw [show nxK xs (nxK xs (nxK xs (nxK xs k))) = wip4 xs k from rfl] at M
 obtain ⟨k4, hk4⟩ : ∃ k4, k4 = wip4 xs k := ⟨_, rfl⟩
 rw [← hk4] at M
 cases hc : Zli xs (nxK xs (nxK xs (nxK xs k))) 9
 all_goals rw [hc] at F
 ·with_reducible refine ZaF ?_
  with_reducible refine Zam ?_
  refine Zcm F rfl rfl ?_
  with_reducible refine ZcQ (Zam (ZaB (Zaf ?_)))
  refine sD F (Zc0 M (F.e rfl) (by repeat constructor) ‹_› ?_);clear F a;intro a F
  (refine ZdT rfl F (ZbV M (F.e rfl) (F.e rfl) (ZaU hip.len) (ZfO _)  (by repeat constructor)  (Zag (by rw [ZaU hip.len];rfl)) (by repeat constructor) ?_);clear F M;intro w M a F)
  with_reducible refine ZaF (Zam (Zb6 ?_))
  exact Zb3 F rfl (.cons (.cell (F.e rfl) (ZaP TAgg.h (M.heap (.there (.there .here))) e0)) .nil) ⟨by rw [show wipV xs k = ip by rw [hipd];unfold wipV;rw [if_neg (by simp [hc])]];rfl, by rw [show wipK xs k = k4 by rw [hk4];unfold wipK;rw [if_neg (by simp [hc])]];exact M.sub (.cons_cons _ (.cons _ (.cons _ (.refl _))))⟩
 ·replace F := F.only [0, 2, 3, 16] rfl
  have v1 := Zbm xs k4 (n := 16) (by omega)
  have v2 := Zbm xs (nxK xs k4) (n := 8) (by omega)
  have hib := hip.at_ (nxV xs k4 16).toNat
  have h1 : nth (ipC ip) (0 + (nxV xs k4 16).toNat * 1) = some (.int .u8 (ip.getD (nxV xs k4 16).toNat 0)) := ZkW hip (by omega) (by omega)
  with_reducible refine ZaF (Zam ?_)
  refine ZcV F rfl rfl (ZsI (l0 := [(bt, tobj p len cap k4)]) [bt] [1, 5] M 9 F (by kernel_rfl) ?_)
  intro w1 M1 hok hef
  have hB : ∀ k ∈ [bt], k ∈ ([(bt, tobj p len cap k4)] : List (Nat × Obj)).map (·.1) := by simp
  have hTw : ∀ w', Ext [bt] w1 w' → ZcG w' bt p len xs := fun w' E => hT.later (M1.ext.trans (E.mono (by simp)))
  refine mK hok rfl rfl (fun a' w' F' E' => Zaq (F'.e rfl) ⟨Ext.refl _ _, rfl⟩) (mE (T' := fun _ w => Mem _ _ w ([(bt, tobj p len cap (nxK xs k4))] ++ _)) hok rfl rfl (fun _ _ _ h k => h.later k) (fun a' w' σ' F' E' T' => Zbh (F'.e rfl) (F'.evs rfl) (Cal.mono (Zba 16 (by omega) (by omega) _ (hTw _ E') (T'.heap .here)) fun _ _ hh => ⟨hh.2.ext, hh.1, Mem.turn1 T' hh.2 .here⟩)) (mK hok rfl rfl (fun a' w' F' E' => Zbc (F'.e rfl) (F'.e rfl) (by omega) (by omega) ⟨Ext.refl _ _, rfl⟩) (mK hok rfl rfl (fun a' w' F' E' => Zbo (M1.laterBut E' hB) (F'.e rfl) (by repeat constructor) ‹_› ⟨Ext.refl _ _, rfl⟩) ?_)))
  refine mK hok rfl rfl (fun a' w' F' E' => Zaq (F'.e rfl) ⟨Ext.refl _ _, rfl⟩) (mE (T' := fun _ w => Mem _ _ w ([(bt, tobj p len cap (nxK xs (nxK xs k4)))] ++ _)) hok rfl rfl (fun _ _ _ h k => h.later k) (fun a' w' σ' F' E' T' => Zbh (F'.e rfl) (F'.evs rfl) (Cal.mono (Zba 8 (by omega) (by omega) _ (hTw _ E') (T'.heap .here)) fun _ _ hh => ⟨hh.2.ext, hh.1, Mem.turn1 T' hh.2 .here⟩)) (mK hok rfl rfl (fun a' w' F' E' => Zey (F'.e rfl) (ZgM (by omega) (by omega)) ⟨Ext.refl _ _, rfl⟩) (mK hok rfl rfl (fun a' w' F' E' => ZnT (F'.e rfl) (F'.e rfl) (by omega) rfl ⟨Ext.refl _ _, rfl⟩) (mK hok rfl rfl (fun a' w' F' E' => Ztu (F'.e rfl) (F'.e rfl) rfl ⟨Ext.refl _ _, rfl⟩) ?_))))
  clear hTw
  (refine Zgp rfl hef ?_;clear F M;intro a w F hE2 hX M hDD hPP;clear M1;clear hX;clear hE2;clear hok;clear hef;clear hB;clear hDD;clear hPP;(try dsimp only at F);(try simp only [List.cons_append, List.nil_append] at M))
  have hbd := Zku (ip.getD (nxV xs k4 16).toNat 0) (IntKind.u8.wrap (1 * 2 ^ min (nxV xs (nxK xs k4) 8).toNat IntKind.u8.bits))
  obtain ⟨z, hz⟩ : ∃ z, z = ZbK BinOp.xor IntKind.u8 (ip.getD (nxV xs k4 16).toNat 0) (IntKind.u8.wrap (1 * 2 ^ min (nxV xs (nxK xs k4) 8).toNat IntKind.u8.bits)) := ⟨_, rfl⟩
  rw [← hz] at F hbd
  refine sD F (Zbc (F.e rfl) (F.e rfl) (by omega) (by omega) ?_);clear F a;intro a F
  (refine ZdT rfl F (Zfb M (F.e rfl) (F.e rfl) rfl (by repeat constructor) (put1 (q := (nxV xs k4 16).toNat) _ (by omega) (by rw [ZaU hip.len];omega)) (by repeat constructor) ?_);clear F M;intro w M a F)
  rw [← Zsm] at M
  have hip2 := hip.set (nxV xs k4 16).toNat hbd.1 hbd.2
  obtain ⟨ip2, hi2⟩ : ∃ ip2, ip2 = ip.set (nxV xs k4 16).toNat z := ⟨_, rfl⟩
  rw [← hi2] at M hip2
  have e2 : seg (ipC ip2) 0 16 = some (ipC ip2) := Zbw (ZaU hip2.len)
  with_reducible refine ZaF (Zam (ZaB (Zaf ?_)))
  refine sD F (Zc0 M (F.e rfl) (by repeat constructor) ‹_› ?_);clear F a;intro a F
  (refine ZdT rfl F (ZbV M (F.e rfl) (F.e rfl) (ZaU hip2.len) (ZfO _)  (by repeat constructor)  (Zag (by rw [ZaU hip2.len];rfl)) (by repeat constructor) ?_);clear F M;intro w M a F)
  with_reducible refine ZaF (Zam (Zb6 ?_))
  exact Zb3 F rfl (.cons (.cell (F.e rfl) (ZaP TAgg.h (M.heap (.there (.there .here))) e2)) .nil) ⟨by rw [show wipV xs k = ip2 by rw [hi2, hz, hipd, hk4];unfold wipV;rw [if_pos hc]];rfl, by rw [show wipK xs k = nxK xs (nxK xs k4) by rw [hk4];unfold wipK;rw [if_pos hc]];exact M.sub (.cons_cons _ (.cons _ (.cons _ (.refl _))))⟩
end
section
open Go.RowKit
attribute [local irreducible] OpTo wpListIn Code.wpIn MW Cal
def wtV (xs : List Int) (k : Nat) (base : Int) : Int := if 0 < (if base + nxV xs k 60 - 30 < 1099511627776 then base + nxV xs k 60 - 30 else 1099511627776) then (if base + nxV xs k 60 - 30 < 1099511627776 then base + nxV xs k 60 - 30 else 1099511627776) else 0
theorem ZrH {bt : Nat} {p : Option Addr} {len cap k : Nat} {xs : List Int} (base : Int) (h0 : 0 ≤ base) (h1 : base ≤ 1099511627776) (W : World) (hT : ZcG W bt p len xs) (hb : W.heap[bt]? = some (tobj p len cap k)) :
  Cal Tryz.prog 44 [.pointer (some ⟨bt, 0, none⟩), .int .i64 base].toArray W fun v w' => v = .int .i64 (wtV xs k base) ∧ Mem [bt] W w' [(bt, tobj p len cap (nxK xs k))] := by
 refine ZbU (n := 12) [bt] Tryz.func44 rfl rfl rfl ?_
 intro a w F M hwW
 replace M := M.came hwW hb (by simp) (by simp)
 have hx := Zbm xs k (n := 60) (by omega)
 refine ZaB (Zaf ?_)
 refine sD F (Zau (F.e rfl) ?_);clear F a;intro a F
 with_reducible refine ZaF (Zam (ZaB (Zaf ?_)))
 refine sD F (Zaq (F.e rfl) fun a F => sD F (Zaq (F.e rfl) ?_));iterate 2 clear F a
 intro a F
 (refine sD F (Zbh (F.e rfl) (F.evs rfl) (Cal.mono (Zba 60 (by omega) (by omega) _ (hT.later M.ext) (M.heap .here) ) ?_));clear F;clear a;have M0 := M;clear M;rintro _ w ⟨rfl, N⟩ a F)
 replace M := M0.turn1 N .here
 clear M0
 refine sD F (ZgN (F.e rfl) (F.e rfl) (Zax (by omega) (by omega)) fun a F => sD F (Zi7 (F.e rfl) (F.e rfl) (Zax (by omega) (by omega)) fun a F => sD F (ZjY (F.e rfl) (F.e rfl) fun a F => sD F (ZjZ (F.e rfl) (F.e rfl) fun a F => sD F (Zau (F.e rfl) ?_)))));iterate 5 clear F a
 intro a F
 with_reducible refine ZaF (Zam (Zb6 ?_))
 exact Zb3 F rfl (.cons (.tmp (F.e rfl)) .nil) (⟨rfl, M⟩)
theorem Zn0 {k : IntKind} {xs : List Int} {i : Int} (h0 : 0 ≤ i) (h1 : i < xs.length) : nth (xs.map (Value.int k)) (0 + i.toNat * 1) = some (.int k (xs.getD i.toNat 0)) := by
 have h : i.toNat < xs.length := by omega
 rw [ZbG, show 0 + i.toNat * 1 = i.toNat by omega]
 simp [h]
def ZiY : List Int := [128, 128, 64, 56, 48, 32, 0, 127, 3, 60]
theorem ZpA (i : Nat) : 0 ≤ ZiY.getD i 0 ∧ ZiY.getD i 0 ≤ 128 := by
 rcases Nat.lt_or_ge i 10 with h | h
 ·have : ∀ i : Fin 10, 0 ≤ ZiY.getD i.val 0 ∧ ZiY.getD i.val 0 ≤ 128 := by decide
  exact this ⟨i, h⟩
 ·rw [List.getD_eq_getElem?_getD, List.getElem?_eq_none (by simpa [ZiY] using h)]
  simp
def wpN (xs : List Int) (k : Nat) : Int := if Zli xs (nxK xs k) 7 then nxV xs (nxK xs (nxK xs k)) 129 else ZiY.getD (nxV xs k 10).toNat 0
def wpK0 (xs : List Int) (k : Nat) : Nat := if Zli xs (nxK xs k) 7 then nxK xs (nxK xs (nxK xs k)) else nxK xs (nxK xs k)
def wpA (xs : List Int) (k : Nat) : List Int := wipV xs (wpK0 xs k)
def wpK (xs : List Int) (k : Nat) : Nat := wipK xs (wpK0 xs k)
theorem Zq7 (xs : List Int) (k : Nat) : 0 ≤ wpN xs k ∧ wpN xs k ≤ 128 := by
 have h1 := Zbm xs (nxK xs (nxK xs k)) (n := 129) (by omega)
 unfold wpN
 split
 ·omega
 ·exact ZpA _
theorem Znc {bt : Nat} {p : Option Addr} {len cap k : Nat} {xs : List Int} (W : World) (hT : ZcG W bt p len xs) (hb : W.heap[bt]? = some (tobj p len cap k)) :
  Cal Tryz.prog 83 [.pointer (some ⟨bt, 0, none⟩)].toArray W fun v w' => v = .agg (pfC (ZbH (wpA xs k) (wpN xs k)) (wpN xs k)).toArray ∧ Mem [bt] W w' [(bt, tobj p len cap (wpK xs k))] := by
 have v1 := Zbm xs k (n := 10) (by omega)
 have v3 := Zbm xs (nxK xs (nxK xs k)) (n := 129) (by omega)
 have n1 := Zn0 (k := .i64) (xs := ZiY) v1.1 (by simpa [ZiY] using v1.2)
 have hbd := Zq7 xs k
 have hcl : Zde (wpN xs k) = wpN xs k := Zg4 hbd.1 hbd.2
 have s3 := ZjK (Zbs (wpA xs k) (wpN xs k)) (wpN xs k)
 refine ZbU (n := 17) [bt] Tryz.func83 rfl rfl rfl ?_
 intro a w F M hwW
 replace M := M.came hwW hb (by simp) (by simp)
 refine ZaB (Zaf ?_)
 (refine sD F (Zdk M ?_);clear F M;intro b2 w M a F)
 with_reducible refine ZaF (Zam (ZaB (Zaf ?_)))
 (refine sD F (Zch F M rfl rfl rfl rfl ?_);clear F M;intro b4 w M a F)
 refine sD F (Zaq (F.e rfl) ?_);clear F a;intro a F
 (refine sD F (Zbh (F.e rfl) (F.evs rfl) (Cal.mono (Zba 10 (by omega) (by omega) _ (hT.later M.ext) (M.heap (.there (.there .here))) ) ?_));clear F;clear a;have M0 := M;clear M;rintro _ w ⟨rfl, N⟩ a F)
 replace M := M0.turn1 N (.there (.there .here))
 (refine sD F (Zcg (F.e rfl) (F.e rfl) (by omega) (by omega) ?_);clear F a;intro a F)
 (refine sD F (Zbo M (F.e rfl) (by repeat constructor) (n1) ?_);clear F a;intro a F)
 refine sD F (Zau (F.e rfl) ?_);clear F a;intro a F
 with_reducible refine ZaF (Zam (ZaB (ZaB (Zaf ?_))))
 refine sD F (Zaq (F.e rfl) ?_);clear F a;intro a F
 (refine sD F (Zbh (F.e rfl) (F.evs rfl) (Cal.mono (Zfm 7 (by omega) (by omega) _ (hT.later M.ext) (M.heap (.there (.there .here))) ) ?_));clear F;clear a;have M0 := M;clear M;rintro _ w ⟨rfl, N⟩ a F)
 replace M := M0.turn1 N (.there (.there .here))
 cases hc : Zli xs (nxK xs k) 7
 ·rw [hc] at F
  have hN : wpN xs k = ZiY.getD (nxV xs k 10).toNat 0 := by unfold wpN;rw [hc];rfl
  have hK : wpK0 xs k = nxK xs (nxK xs k) := by unfold wpK0;rw [hc];rfl
  rw [← hK] at M
  rw [← hN] at F
  with_reducible refine ZaF (Zam ?_)
  refine Zcm F rfl rfl ?_
  with_reducible refine ZcQ (Zam (ZaB (Zaf ?_)))
  refine sD F (Zaq (F.e rfl) ?_);clear F a;intro a F
  (refine sD F (Zbh (F.e rfl) (F.evs rfl) (Cal.mono (ZjB _ (hT.later M.ext) (M.heap (.there (.there .here))) ) ?_));clear F;clear a;have M0 := M;clear M;rintro _ w ⟨rfl, N⟩ a F)
  replace M := M0.turn1 N (.there (.there .here))
  refine sD F (Zaq (F.e rfl) ?_);clear F a;intro a F
  (refine sD F (Zbh (F.e rfl) (F.evs rfl) (Cal.mono (Cal.to (ZkG (wpA xs k) (Zfp _ _) (wpN xs k) _) (by rw [hcl])) ?_));clear F;clear a;rintro _ w ⟨rfl, hE⟩ a F;replace M := M.later hE;clear hE)
  (refine ZdT rfl F (ZbV M (F.e rfl) (F.e rfl) (ZeP (Zbs _ _) _) (ZlI _ _)  (by repeat constructor)  (Zag (by rw [ZeP (Zbs (wpA xs k) (wpN xs k)) (wpN xs k)];rfl)) (by repeat constructor) ?_);clear F M;intro w M a F)
  with_reducible refine ZaF (Zam (Zb6 ?_))
  refine Zb3 F rfl (.cons (.cell (F.e rfl) (ZaP TAgg.h (M.heap (by repeat constructor)) s3)) .nil) ⟨rfl, M.sub (by repeat (first | exact List.Sublist.refl _ | apply sC1))⟩
 ·rw [hc] at F
  have hN : wpN xs k = nxV xs (nxK xs (nxK xs k)) 129 := by unfold wpN;rw [hc];rfl
  have hK : wpK0 xs k = nxK xs (nxK xs (nxK xs k)) := by unfold wpK0;rw [hc];rfl
  with_reducible refine ZaF (Zam ?_)
  refine ZcV F rfl rfl (Zaf ?_)
  refine sD F (Zaq (F.e rfl) ?_);clear F a;intro a F
  (refine sD F (Zbh (F.e rfl) (F.evs rfl) (Cal.mono (Zba 129 (by omega) (by omega) _ (hT.later M.ext) (M.heap (.there (.there .here))) ) ?_));clear F;clear a;have M0 := M;clear M;rintro _ w ⟨rfl, N⟩ a F)
  replace M := M0.turn1 N (.there (.there .here))
  rw [← hK] at M
  rw [← hN] at F
  refine sD F (Zau (F.e rfl) ?_);clear F a;intro a F
  with_reducible refine ZaF (Zam (ZaB (Zaf ?_)))
  refine sD F (Zaq (F.e rfl) ?_);clear F a;intro a F
  (refine sD F (Zbh (F.e rfl) (F.evs rfl) (Cal.mono (ZjB _ (hT.later M.ext) (M.heap (.there (.there .here))) ) ?_));clear F;clear a;have M0 := M;clear M;rintro _ w ⟨rfl, N⟩ a F)
  replace M := M0.turn1 N (.there (.there .here))
  refine sD F (Zaq (F.e rfl) ?_);clear F a;intro a F
  (refine sD F (Zbh (F.e rfl) (F.evs rfl) (Cal.mono (Cal.to (ZkG (wpA xs k) (Zfp _ _) (wpN xs k) _) (by rw [hcl])) ?_));clear F;clear a;rintro _ w ⟨rfl, hE⟩ a F;replace M := M.later hE;clear hE)
  (refine ZdT rfl F (ZbV M (F.e rfl) (F.e rfl) (ZeP (Zbs _ _) _) (ZlI _ _)  (by repeat constructor)  (Zag (by rw [ZeP (Zbs (wpA xs k) (wpN xs k)) (wpN xs k)];rfl)) (by repeat constructor) ?_);clear F M;intro w M a F)
  with_reducible refine ZaF (Zam (Zb6 ?_))
  refine Zb3 F rfl (.cons (.cell (F.e rfl) (ZaP TAgg.h (M.heap (by repeat constructor)) s3)) .nil) ⟨rfl, M.sub (by repeat (first | exact List.Sublist.refl _ | apply sC1))⟩
end
section
open Go.RowKit
attribute [local irreducible] OpTo wpListIn Code.wpIn MW Cal
def ZhU (n0 : Nat) (W : World) (x : OV) : Prop := Zh3 W x ∧ NewV n0 x.u ∧ NewV n0 x.v
end
section
open Go.RowKit
attribute [local irreducible] OpTo wpListIn Code.wpIn MW Cal
theorem NewV.mono {n0 n1 : Nat} {v : Value} (h : NewV n1 v) (hle : n0 ≤ n1) : NewV n0 v := fun b o s n c e => Nat.le_trans hle (h b o s n c e)
theorem NewV.notIn {n0 bt : Nat} {v : Value} (h : NewV n0 v) (hbt : bt < n0) : ∀ b o s k c, v = .slice (some ⟨b, o, s⟩) k c → b ∉ [bt] := fun b o s k c e hb => by
 have := h b o s k c e
 simp only [List.mem_singleton] at hb
 omega
theorem ZhU.mono {n0 n1 : Nat} {W : World} {x : OV} (h : ZhU n1 W x) (hle : n0 ≤ n1) : ZhU n0 W x := ⟨h.1, h.2.1.mono hle, h.2.2.mono hle⟩
theorem ZhU.laterB {n0 bt : Nat} {W w : World} {x : OV} (h : ZhU n0 W x) (hbt : bt < n0) (E : Ext [bt] W w) : ZhU n0 w x :=
 ⟨⟨h.1.1.laterB (h.2.1.notIn hbt) E, h.1.2.laterB (h.2.2.notIn hbt) E⟩, h.2⟩
theorem ZhT.mono {n0 n1 : Nat} {W : World} {v : Value} {os : List Off} (h : ZhT n1 W v os) (hle : n0 ≤ n1) : ZhT n0 W v os := by
 obtain ⟨zs, h1, h2, h3, h4, h5⟩ := h
 exact ⟨zs, h1, h2, h3, h4.mono hle, fun z hz => ⟨(h5 z hz).1.mono hle, (h5 z hz).2.mono hle⟩⟩
theorem ZhT.laterB {n0 bt : Nat} {W w : World} {v : Value} {os : List Off} (h : ZhT n0 W v os) (hbt : bt < n0) (E : Ext [bt] W w) : ZhT n0 w v os := by
 obtain ⟨zs, h1, h2, h3, h4, h5⟩ := h
 exact ⟨zs, h1, h2.laterB (h4.notIn hbt) E, fun z hz => (ZhU.laterB ⟨h3 z hz, h5 z hz⟩ hbt E).1, h4, h5⟩
structure Zm7 (n0 : Nat) (W : World) (v : Value) (os : List Off) : Prop where
 at_ : ZhT n0 W v os
 is : ∀ o ∈ os, ZuE o
 len : os.length ≤ 8
 small : ∀ o ∈ os, o.ps.length ≤ 16 ∧ o.cs.length ≤ 16
theorem Zm7.laterB {n0 bt : Nat} {W w : World} {v : Value} {os : List Off} (h : Zm7 n0 W v os) (hbt : bt < n0) (E : Ext [bt] W w) : Zm7 n0 w v os := ⟨h.at_.laterB hbt E, h.is, h.len, h.small⟩
theorem Mem.re {S : List Nat} {W w : World} {l : List (Nat × Obj)} (M : Mem S W w l) (h : ∀ p ∈ l, p.1 ∈ S) : Mem S w w l := ⟨Ext.refl _ _, M.at_, M.nd, fun p hp => .inl (h p hp)⟩
def ZuC (bt : Nat) (x : OV) : Prop := (∀ b o s k c, x.u = .slice (some ⟨b, o, s⟩) k c → b ∉ [bt]) ∧ ∀ b o s k c, x.v = .slice (some ⟨b, o, s⟩) k c → b ∉ [bt]
theorem Zh3.laterB {bt : Nat} {W w : World} {x : OV} (h : Zh3 W x) (hn : ZuC bt x) (E : Ext [bt] W w) : Zh3 w x := ⟨h.1.laterB hn.1 E, h.2.laterB hn.2 E⟩
end
section
open Go.RowKit
attribute [local irreducible] OpTo wpListIn Code.wpIn MW Cal
theorem Zm7.mono {n0 n1 : Nat} {W : World} {v : Value} {os : List Off} (h : Zm7 n1 W v os) (hle : n0 ≤ n1) : Zm7 n0 W v os := ⟨h.at_.mono hle, h.is, h.len, h.small⟩
end
section
open Go.RowKit
structure Msg where
 ty : Int
 hops : Int
 life : Int
 tgt : List Int
 sm : Int
 ss : Int
 se : Int
 oe : Int
 os : Int
 ost : Int
 ol : Int
 ho : Bool
 bv : Int
 bl : Int
 br : List Int
 hb : Bool
 deriving DecidableEq
structure MV where
 m : Msg
 ps : List PInf
 cs : List CInf
 u : Value
 v : Value
def MsAt (W : World) (x : MV) : Prop := SlAt W 20 x.u x.ps.length (pisC x.ps) ∧ SlAt W 20 x.v x.cs.length (cisC x.cs)
theorem MsAt.later {W w : World} {x : MV} (h : MsAt W x) (E : Ext [] W w) : MsAt w x := ⟨h.1.later E, h.2.later E⟩
end
section
open Go.RowKit
attribute [local irreducible] OpTo wpListIn Code.wpIn MW Cal
def LSt (W : World) (v : Value) (zs : List OV) : Prop := SlAt W 20 v zs.length (encL ovC zs) ∧ ∀ z ∈ zs, Zh3 W z
theorem LSt.later {W w : World} {v : Value} {zs : List OV} (h : LSt W v zs) (E : Ext [] W w) : LSt w v zs := ⟨h.1.later E, fun z hz => (h.2 z hz).later E⟩
end
end Go.Proofs.YtfhkmgcalcfibaaGreat
namespace Go.Proofs.YtfhkmgcalcfibaaGreat
open Go.ChangeShapes Go.WideShapes Go.ChangeAt Go.RowKit
def loK : IntKind → Int
 | .i64 => -9223372036854775808 | .u64 => 0 | .u32 => 0 | .u16 => 0 | .u8 => 0 | .i32 => -2147483648 | k => k.min
def hiK : IntKind → Int
 | .i64 => 9223372036854775807 | .u64 => 18446744073709551615 | .u32 => 4294967295 | .u16 => 65535 | .u8 => 255 | .i32 => 2147483647 | k => k.max
theorem Zom {k : IntKind} {n : Int} (h : (Lit.int k n).wf = true) : loK k ≤ n ∧ n ≤ hiK k := by
 have := Zul h
 cases k <;> simp [IntKind.min, IntKind.max, IntKind.signed, IntKind.bits, loK, hiK] at this ⊢ <;> omega
theorem ZaT {k : IntKind} {v : Value} (h : wfV (.i k) v = true) : ∃ n, v = .int k n ∧ loK k ≤ n ∧ n ≤ hiK k := by
 cases v <;> simp [wfV] at h
 rename_i k' n
 obtain ⟨rfl, hw⟩ := h
 exact ⟨n, rfl, Zom hw⟩
theorem ZaL {k : LK} {ks : List LK} {xs : List Value} (h : wfK (k :: ks) xs = true) : ∃ x ys, xs = x :: ys ∧ wfV k x = true ∧ wfK ks ys = true := by
 cases xs with
 | nil => cases h
 | cons x ys => simp only [wfK, Bool.and_eq_true] at h;exact ⟨x, ys, rfl, h.1, h.2⟩
theorem ZeC {xs : List Value} (h : wfK [] xs = true) : xs = [] := by
 cases xs with
 | nil => rfl
 | cons x ys => cases h
theorem Zfe : ∀ (xs : List Value) (n : Nat), wfK (List.replicate n (.i .u8)) xs = true → ∃ a : List Int, xs = ipC a ∧ a.length = n ∧ ∀ x ∈ a, 0 ≤ x ∧ x < 256
 | [], 0, _ => ⟨[], rfl, rfl, by simp⟩
 | [], n + 1, h => by simp [List.replicate_succ, wfK] at h
 | _ :: _, 0, h => by simp [wfK] at h
 | x :: xs, n + 1, h => by
  simp only [List.replicate_succ, wfK, Bool.and_eq_true] at h
  obtain ⟨a, rfl, hl, hb⟩ := Zfe xs n h.2
  obtain ⟨m, rfl, h0, h1⟩ := ZaT h.1
  refine ⟨m :: a, rfl, by simp [hl], fun y hy => ?_⟩
  rcases List.mem_cons.1 hy with rfl | hy
  ·simp only [loK, hiK] at h0 h1;omega
  ·exact hb y hy
section
variable {H : Type} {enc : TypeId × Value → H} {w : World} {r : Reach} {b0 base : Nat} {sp : Nat → Bool} {held : Bool} {v : Value} {d : DataW H} {p : List MemPlace}
set_option maxRecDepth 100000 in
theorem ZnQ (hval : Value.okWide Tryz.prog w r b0 63 v) (h : DataW.Trod enc Tryz.prog w base sp held 63 v d p) : ∃ a, IsIP a ∧ v = .agg (ipC a).toArray := by
 obtain ⟨xs, rfl, hw⟩ := Zr2 (ks := List.replicate 16 (.i .u8)) (by kernel_rfl) hval h
 obtain ⟨a, rfl, hl, hb⟩ := Zfe xs 16 hw
 exact ⟨a, ⟨hl, hb⟩, rfl⟩
theorem ZbD : ∀ {ks ks' : List LK} {xs : List Value}, wfK (ks ++ ks') xs = true → ∃ ys zs, xs = ys ++ zs ∧ wfK ks ys = true ∧ wfK ks' zs = true
 | [], ks', xs, h => ⟨[], xs, rfl, rfl, h⟩
 | k :: ks, ks', [], h => by cases h
 | k :: ks, ks', x :: xs, h => by
  simp only [List.cons_append, wfK, Bool.and_eq_true] at h
  obtain ⟨ys, zs, rfl, h1, h2⟩ := ZbD h.2
  exact ⟨x :: ys, zs, rfl, by simp [wfK, h.1, h1], h2⟩
end
set_option maxRecDepth 100000 in
theorem Zr3 {H : Type} {enc : TypeId × Value → H} {w : World} {r : Reach} {b0 base : Nat} {held : Bool} {v : Value} {d : DataW H} {p : List MemPlace} (hval : Value.okWide Tryz.prog w r b0 22 v) (h : DataW.Trod enc Tryz.prog w base (fun _ => true) held 22 v d p) :
  ∃ xs q cap, v = .slice q xs.length cap ∧ xs.length ≤ cap ∧ ZiV w v xs := by
 obtain ⟨a, len, cap, rfl⟩ := okWide_slice Tryz.underlying22 hval
 obtain ⟨fuel, hf⟩ := h
 have hone : (Value.slice a len cap).cells.toList = [Value.slice a len cap] := rfl
 rw [hone] at hf
 rcases open_ints Tryz.underlying22 Tryz.underlying3 (by kernel_rfl) hf with ⟨h1, _⟩ | ⟨a', len', cap', zs, h1, _, hlc, hcm, hzl, _, hat, hwf⟩
 ·cases h1
  exact ⟨[], none, 0, rfl, by simp, ⟨⟨none, 0, rfl, by simp, fun h => absurd h (by simp)⟩, by simp, by simp⟩⟩
 ·cases h1
  simp only [if_true] at hzl
  have hml : maxLen = 9223372036854775807 := rfl
  have htl : (zs.take len).length = len := by rw [List.length_take];omega
  refine ⟨zs.take len, some a', cap, by rw [htl], by omega, ⟨⟨some a', cap, by rw [htl], by omega, fun hl => ?_⟩, fun x hx => ?_, by omega⟩⟩
  ·rw [htl] at hl
   have h0 := hat 0 (by omega)
   have hsp : a'.spot = none := by
    cases hs : a'.spot with
    | none => rfl
    | some q =>
     have e0 : a'.add 0 = a' := by simp [Addr.add]
     rw [e0] at h0
     simp only [World.cell?, hs] at h0
     split at h0 <;> simp at h0
   obtain ⟨b, o, sp⟩ := a'
   simp only at hsp
   subst hsp
   have hadd : ∀ i, (⟨b, o, none⟩ : Addr).add i = ⟨b, o + i, none⟩ := fun i => ZbW b o i
   rw [hadd] at h0
   cases hb : w.heap[b]? with
   | none => simp [World.cell?, hb] at h0
   | some ob =>
    cases ob with
    | cells cs t fz =>
     refine ⟨b, o, cs, t, fz, rfl, hb, ?_⟩
     have hcell : ∀ i, i < zs.length → cs[o + i]? = some (.int .i64 (zs.getD i 0)) := fun i hi => by
      have := hat i hi
      rw [hadd] at this
      simpa [World.cell?, hb] using this
     have hle : o + len ≤ cs.toList.length := by
      have := hcell (len - 1) (by omega)
      have := (Array.getElem?_eq_some_iff.1 this).1
      simp only [Array.length_toList]
      omega
     rw [htl, Zlu, if_pos hle]
     congr 1
     apply List.ext_getElem
     ·simp only [List.length_take, List.length_drop, i64C, List.length_map]
      omega
     ·intro i h1 h2
      have hi : i < len := by simp only [List.length_take] at h1;omega
      have := hcell i (by omega)
      have h3 := Array.getElem?_eq_some_iff.1 this
      obtain ⟨h4, h5⟩ := h3
      simp only [List.getElem_take, List.getElem_drop, Array.getElem_toList, h5, i64C, List.getElem_map]
      rw [List.getD_eq_getElem?_getD, List.getElem?_eq_getElem (by omega)]
      rfl
    | _ => simp [World.cell?, hb] at h0
  ·have := Zom (hwf x (List.mem_of_mem_take hx))
   exact this
end Go.Proofs.YtfhkmgcalcfibaaGreat
namespace Go.Proofs.YtfhkmgcalcfibaaGreat
open Go.RowKit
theorem ZsT (a : Addr) (m r : Nat) : (a.add m).add r = a.add (m + r) := by
 obtain ⟨b, o, sp⟩ := a
 unfold Addr.add
 by_cases hm : m = 0
 ·subst hm
  simp
 ·by_cases hr : r = 0
  ·subst hr;simp [hm]
  ·simp [hm, hr, show ¬ m + r = 0 by omega];omega
section
variable {H : Type} {enc : TypeId × Value → H} {P : Program} {w : World} {base : Nat} {sp : Nat → Bool} {held : Bool}
theorem Zej {α : Type} {encE : α → List Value} {Is : α → Prop} {t e : TypeId} {sz : Nat} (ht : P.underlying t = some (.slice e)) (hsz : P.cellsOf e = sz) (h0 : 0 < sz)
  (hdec : ∀ n cs y, DataW.trod enc P w base sp held n e cs = some y → ∃ x : α, Is x ∧ cs = encE x) {fuel : Nat} {cs : List Value} {x : DataW H × List MemPlace} (h : DataW.trod enc P w base sp held fuel t cs = some x) :
  ∃ (v : Value) (ls : List α), cs = [v] ∧ (∀ x ∈ ls, Is x) ∧ SlAt w sz v ls.length (encL encE ls) ∧ ls.length ≤ 9223372036854775807 := by
 rcases DataW.trod_slice ht h with ⟨rfl, _⟩ | ⟨a, len, cap, elems, rest, n, _, rfl, _, _, hlc, hcm, hel, hat, _, _⟩
 ·exact ⟨_, [], rfl, by simp, SlAt.nil _ _, by simp⟩
 have hml : maxLen = 9223372036854775807 := rfl
 rw [hsz] at hat
 have key : ∀ k, k ≤ len → ∃ ls : List α, ls.length = k ∧ (∀ x ∈ ls, Is x) ∧ (encL encE ls).length = k * sz ∧ ∀ j, j < k * sz → w.cell? (a.add j) = (encL encE ls)[j]? := by
  intro k
  induction k with
  | zero => exact fun _ => ⟨[], rfl, by simp, by simp [ZqJ], by simp⟩
  | succ k ih =>
   intro hk
   obtain ⟨ls, h1, h2, h3, h4⟩ := ih (by omega)
   have hb := hat k (by omega)
   rw [List.getElem?_eq_getElem (by omega), Option.bind_eq_some_iff] at hb
   obtain ⟨ck, hc, hy⟩ := hb
   obtain ⟨x, hx, rfl⟩ := hdec _ _ _ hy
   obtain ⟨_, hcl, hca⟩ := World.cells?_some hc
   refine ⟨ls ++ [x], by simp [h1], fun z hz => ?_, ?_, fun j hj => ?_⟩
   ·rcases List.mem_append.1 hz with h | h
    ·exact h2 z h
    ·simp only [List.mem_singleton] at h
     rw [h];exact hx
   ·rw [Zf2, Zjm, List.length_append, h3, hcl, Nat.add_mul];omega
   ·rw [Zf2, Zjm]
    rcases Nat.lt_or_ge j (k * sz) with h | h
    ·rw [List.getElem?_append_left (by omega)]
     exact h4 j h
    ·rw [List.getElem?_append_right (by omega), h3, ← hca (j - k * sz) (by rw [Nat.add_mul] at hj;omega), ZsT]
     congr 2
     omega
 obtain ⟨ls, h1, h2, h3, h4⟩ := key len (Nat.le_refl _)
 refine ⟨_, ls, rfl, h2, ⟨some a, cap, by rw [h1], by omega, fun _ _ => trivial, by rw [h3, h1], fun hl => ?_⟩, by omega⟩
 have hpos : 0 < len * sz := Nat.mul_pos (by omega) h0
 have hc0 := h4 0 hpos
 have hsp : a.spot = none := by
  cases hs : a.spot with
  | none => rfl
  | some q =>
   have e0 : a.add 0 = a := by simp [Addr.add]
   rw [e0, List.getElem?_eq_getElem (by omega)] at hc0
   simp only [World.cell?, hs] at hc0
   split at hc0 <;> simp at hc0
 obtain ⟨b, o, spt⟩ := a
 simp only at hsp
 subst hsp
 have hadd : ∀ i, (⟨b, o, none⟩ : Addr).add i = ⟨b, o + i, none⟩ := fun i => ZbW b o i
 rw [hadd, List.getElem?_eq_getElem (by omega)] at hc0
 cases hb : w.heap[b]? with
 | none => simp [World.cell?, hb] at hc0
 | some ob =>
  cases ob with
  | cells cs t fz =>
   refine ⟨b, o, cs.toList, t, fz, rfl, by simpa using hb, ?_⟩
   have hcell : ∀ i, i < len * sz → cs[o + i]? = (encL encE ls)[i]? := fun i hi => by
    have := h4 i hi
    rw [hadd] at this
    simpa [World.cell?, hb] using this
   have hle : o + len * sz ≤ cs.toList.length := by
    have := hcell (len * sz - 1) (by omega)
    rw [List.getElem?_eq_getElem (by omega)] at this
    have := (Array.getElem?_eq_some_iff.1 this).1
    simp only [Array.length_toList]
    omega
   rw [h1, Zmp, if_pos hle]
   congr 1
   apply List.ext_getElem?
   intro i
   rcases Nat.lt_or_ge i (len * sz) with hi | hi
   ·rw [List.getElem?_take_of_lt hi, List.getElem?_drop, Array.getElem?_toList, hcell i hi]
   ·rw [List.getElem?_eq_none (by simp;omega), List.getElem?_eq_none (by omega)]
  | _ => simp [World.cell?, hb] at hc0
end
structure DstV where
 dip : List Int
 dbits : Int
 sip : List Int
 sbits : Int
 rt : Int
 deriving DecidableEq
def dvC (o : DstV) : List Value := pfC o.dip o.dbits ++ (pfC o.sip o.sbits ++ ([.int .u64 o.rt]))
def IsDv (o : DstV) : Prop := IsIP o.dip ∧ IsIP o.sip
theorem Zaz {o : DstV} (h : IsDv o) : (dvC o).length = 35 := by
 obtain ⟨f_dip, f_dbits, f_sip, f_sbits, f_rt⟩ := o
 obtain ⟨x0_0, x0_1, x0_2, x0_3, x0_4, x0_5, x0_6, x0_7, x0_8, x0_9, x0_10, x0_11, x0_12, x0_13, x0_14, x0_15, e0⟩ := ZaC (show f_dip.length = 16 from (h.1).len)
 obtain ⟨x1_0, x1_1, x1_2, x1_3, x1_4, x1_5, x1_6, x1_7, x1_8, x1_9, x1_10, x1_11, x1_12, x1_13, x1_14, x1_15, e1⟩ := ZaC (show f_sip.length = 16 from (h.2).len)
 subst e0
 subst e1
 rfl
theorem ZaO {o : DstV} (h : IsDv o) : seg (dvC o) 0 35 = some (dvC o) := ZfE (Zaz h)
theorem Zb9 {o : DstV} (h : IsDv o) : seg (dvC o) 0 17 = some (pfC o.dip o.dbits) := by
 obtain ⟨f_dip, f_dbits, f_sip, f_sbits, f_rt⟩ := o
 obtain ⟨x0_0, x0_1, x0_2, x0_3, x0_4, x0_5, x0_6, x0_7, x0_8, x0_9, x0_10, x0_11, x0_12, x0_13, x0_14, x0_15, e0⟩ := ZaC (show f_dip.length = 16 from (h.1).len)
 obtain ⟨x1_0, x1_1, x1_2, x1_3, x1_4, x1_5, x1_6, x1_7, x1_8, x1_9, x1_10, x1_11, x1_12, x1_13, x1_14, x1_15, e1⟩ := ZaC (show f_sip.length = 16 from (h.2).len)
 subst e0
 subst e1
 rfl
theorem ZoT {o : DstV} (h : IsDv o) : seg (dvC o) 0 16 = some (ipC o.dip) := by
 obtain ⟨f_dip, f_dbits, f_sip, f_sbits, f_rt⟩ := o
 obtain ⟨x0_0, x0_1, x0_2, x0_3, x0_4, x0_5, x0_6, x0_7, x0_8, x0_9, x0_10, x0_11, x0_12, x0_13, x0_14, x0_15, e0⟩ := ZaC (show f_dip.length = 16 from (h.1).len)
 obtain ⟨x1_0, x1_1, x1_2, x1_3, x1_4, x1_5, x1_6, x1_7, x1_8, x1_9, x1_10, x1_11, x1_12, x1_13, x1_14, x1_15, e1⟩ := ZaC (show f_sip.length = 16 from (h.2).len)
 subst e0
 subst e1
 rfl
theorem Zbf {o : DstV} (h : IsDv o) : nth (dvC o) 16 = some (.int .i64 o.dbits) := by
 obtain ⟨f_dip, f_dbits, f_sip, f_sbits, f_rt⟩ := o
 obtain ⟨x0_0, x0_1, x0_2, x0_3, x0_4, x0_5, x0_6, x0_7, x0_8, x0_9, x0_10, x0_11, x0_12, x0_13, x0_14, x0_15, e0⟩ := ZaC (show f_dip.length = 16 from (h.1).len)
 obtain ⟨x1_0, x1_1, x1_2, x1_3, x1_4, x1_5, x1_6, x1_7, x1_8, x1_9, x1_10, x1_11, x1_12, x1_13, x1_14, x1_15, e1⟩ := ZaC (show f_sip.length = 16 from (h.2).len)
 subst e0
 subst e1
 rfl
theorem ZcP {o : DstV} (h : IsDv o) : seg (dvC o) 17 17 = some (pfC o.sip o.sbits) := by
 obtain ⟨f_dip, f_dbits, f_sip, f_sbits, f_rt⟩ := o
 obtain ⟨x0_0, x0_1, x0_2, x0_3, x0_4, x0_5, x0_6, x0_7, x0_8, x0_9, x0_10, x0_11, x0_12, x0_13, x0_14, x0_15, e0⟩ := ZaC (show f_dip.length = 16 from (h.1).len)
 obtain ⟨x1_0, x1_1, x1_2, x1_3, x1_4, x1_5, x1_6, x1_7, x1_8, x1_9, x1_10, x1_11, x1_12, x1_13, x1_14, x1_15, e1⟩ := ZaC (show f_sip.length = 16 from (h.2).len)
 subst e0
 subst e1
 rfl
theorem ZoQ {o : DstV} (h : IsDv o) : seg (dvC o) 17 16 = some (ipC o.sip) := by
 obtain ⟨f_dip, f_dbits, f_sip, f_sbits, f_rt⟩ := o
 obtain ⟨x0_0, x0_1, x0_2, x0_3, x0_4, x0_5, x0_6, x0_7, x0_8, x0_9, x0_10, x0_11, x0_12, x0_13, x0_14, x0_15, e0⟩ := ZaC (show f_dip.length = 16 from (h.1).len)
 obtain ⟨x1_0, x1_1, x1_2, x1_3, x1_4, x1_5, x1_6, x1_7, x1_8, x1_9, x1_10, x1_11, x1_12, x1_13, x1_14, x1_15, e1⟩ := ZaC (show f_sip.length = 16 from (h.2).len)
 subst e0
 subst e1
 rfl
theorem Zbr {o : DstV} (h : IsDv o) : nth (dvC o) 33 = some (.int .i64 o.sbits) := by
 obtain ⟨f_dip, f_dbits, f_sip, f_sbits, f_rt⟩ := o
 obtain ⟨x0_0, x0_1, x0_2, x0_3, x0_4, x0_5, x0_6, x0_7, x0_8, x0_9, x0_10, x0_11, x0_12, x0_13, x0_14, x0_15, e0⟩ := ZaC (show f_dip.length = 16 from (h.1).len)
 obtain ⟨x1_0, x1_1, x1_2, x1_3, x1_4, x1_5, x1_6, x1_7, x1_8, x1_9, x1_10, x1_11, x1_12, x1_13, x1_14, x1_15, e1⟩ := ZaC (show f_sip.length = 16 from (h.2).len)
 subst e0
 subst e1
 rfl
theorem ZmU {o : DstV} (h : IsDv o) {z : List Int} (hz : IsIP z) (y : Int) : put (dvC o) 17 (pfC z y) = some (dvC { o with sip := z, sbits := y }) := by
 obtain ⟨f_dip, f_dbits, f_sip, f_sbits, f_rt⟩ := o
 obtain ⟨x0_0, x0_1, x0_2, x0_3, x0_4, x0_5, x0_6, x0_7, x0_8, x0_9, x0_10, x0_11, x0_12, x0_13, x0_14, x0_15, e0⟩ := ZaC (show f_dip.length = 16 from (h.1).len)
 obtain ⟨x1_0, x1_1, x1_2, x1_3, x1_4, x1_5, x1_6, x1_7, x1_8, x1_9, x1_10, x1_11, x1_12, x1_13, x1_14, x1_15, e1⟩ := ZaC (show f_sip.length = 16 from (h.2).len)
 subst e0
 subst e1
 obtain ⟨z0, z1, z2, z3, z4, z5, z6, z7, z8, z9, z10, z11, z12, z13, z14, z15, ez⟩ := ZaC hz.len
 subst ez
 rfl
theorem Zdz {o : DstV} (h : IsDv o) : nth (dvC o) 34 = some (.int .u64 o.rt) := by
 obtain ⟨f_dip, f_dbits, f_sip, f_sbits, f_rt⟩ := o
 obtain ⟨x0_0, x0_1, x0_2, x0_3, x0_4, x0_5, x0_6, x0_7, x0_8, x0_9, x0_10, x0_11, x0_12, x0_13, x0_14, x0_15, e0⟩ := ZaC (show f_dip.length = 16 from (h.1).len)
 obtain ⟨x1_0, x1_1, x1_2, x1_3, x1_4, x1_5, x1_6, x1_7, x1_8, x1_9, x1_10, x1_11, x1_12, x1_13, x1_14, x1_15, e1⟩ := ZaC (show f_sip.length = 16 from (h.2).len)
 subst e0
 subst e1
 rfl
theorem Zbq (o : DstV) : (dvC o).all (·.oneCell') = true := by
 simp [pfC, ipC, dvC, Value.oneCell']
def dvZ : List Value := [.int .u8 0, .int .u8 0, .int .u8 0, .int .u8 0, .int .u8 0, .int .u8 0, .int .u8 0, .int .u8 0, .int .u8 0, .int .u8 0, .int .u8 0, .int .u8 0, .int .u8 0, .int .u8 0, .int .u8 0, .int .u8 0, .int .i64 0, .int .u8 0, .int .u8 0, .int .u8 0, .int .u8 0, .int .u8 0, .int .u8 0, .int .u8 0, .int .u8 0, .int .u8 0, .int .u8 0, .int .u8 0, .int .u8 0, .int .u8 0, .int .u8 0, .int .u8 0, .int .u8 0, .int .i64 0, .int .u64 0]
theorem ZqL {o : DstV} (h : IsDv o) : Za2 [(0, 17), (17, 17), (34, 1)] dvZ [(0, pfC o.dip o.dbits), (1, pfC o.sip o.sbits), (2, [.int .u64 o.rt])] = some (dvC o) := by
 obtain ⟨f_dip, f_dbits, f_sip, f_sbits, f_rt⟩ := o
 obtain ⟨x0_0, x0_1, x0_2, x0_3, x0_4, x0_5, x0_6, x0_7, x0_8, x0_9, x0_10, x0_11, x0_12, x0_13, x0_14, x0_15, e0⟩ := ZaC (show f_dip.length = 16 from (h.1).len)
 obtain ⟨x1_0, x1_1, x1_2, x1_3, x1_4, x1_5, x1_6, x1_7, x1_8, x1_9, x1_10, x1_11, x1_12, x1_13, x1_14, x1_15, e1⟩ := ZaC (show f_sip.length = 16 from (h.2).len)
 subst e0
 subst e1
 rfl
abbrev dvK : List LK := [.i .u8, .i .u8, .i .u8, .i .u8, .i .u8, .i .u8, .i .u8, .i .u8, .i .u8, .i .u8, .i .u8, .i .u8, .i .u8, .i .u8, .i .u8, .i .u8, .i .i64, .i .u8, .i .u8, .i .u8, .i .u8, .i .u8, .i .u8, .i .u8, .i .u8, .i .u8, .i .u8, .i .u8, .i .u8, .i .u8, .i .u8, .i .u8, .i .u8, .i .i64, .i .u64]
theorem Zep {o : DstV} (h : IsDv o) : Za7 dvK (dvC o) = true := by
 obtain ⟨f_dip, f_dbits, f_sip, f_sbits, f_rt⟩ := o
 obtain ⟨x0_0, x0_1, x0_2, x0_3, x0_4, x0_5, x0_6, x0_7, x0_8, x0_9, x0_10, x0_11, x0_12, x0_13, x0_14, x0_15, e0⟩ := ZaC (show f_dip.length = 16 from (h.1).len)
 obtain ⟨x1_0, x1_1, x1_2, x1_3, x1_4, x1_5, x1_6, x1_7, x1_8, x1_9, x1_10, x1_11, x1_12, x1_13, x1_14, x1_15, e1⟩ := ZaC (show f_sip.length = 16 from (h.2).len)
 subst e0
 subst e1
 rfl
theorem ZoS {a b : DstV} (ha : IsDv a) (hb : IsDv b) : eqVs (dvC a) (dvC b) = decide (a = b) := by
 have l0 : a.dip.length = b.dip.length := by rw [(ha.1).len, (hb.1).len]
 have l1 : a.sip.length = b.sip.length := by rw [(ha.2).len, (hb.2).len]
 rw [Bool.eq_iff_iff, decide_eq_true_eq]
 obtain ⟨a_dip, a_dbits, a_sip, a_sbits, a_rt⟩ := a
 obtain ⟨b_dip, b_dbits, b_sip, b_sbits, b_rt⟩ := b
 dsimp only at l0 l1
 simp only [dvC, DstV.mk.injEq]
 rw [Zc2 _ _ _ _ (by (simp [pfC, ipC];assumption))]
 rw [Zc2 _ _ _ _ (by (simp [pfC, ipC];assumption))]
 rw [ZhD l0]
 rw [ZhD l1]
 simp [eqVs, eqV, Bool.and_eq_true, beq_iff_eq, Bool.and_true, and_assoc, decide_eq_true_eq, List.cons_append, List.nil_append]
structure DisV where
 seq : Int
 met : Int
 deriving DecidableEq
def diC (o : DisV) : List Value := [.int .u16 o.seq, .int .i64 o.met]
def IsDi (o : DisV) : Prop := True
theorem Zdd {o : DisV} (h : IsDi o) : (diC o).length = 2 := by
 obtain ⟨f_seq, f_met⟩ := o
 rfl
theorem Zcl {o : DisV} (h : IsDi o) : seg (diC o) 0 2 = some (diC o) := ZfE (Zdd h)
theorem Zma {o : DisV} (h : IsDi o) : nth (diC o) 0 = some (.int .u16 o.seq) := by
 obtain ⟨f_seq, f_met⟩ := o
 rfl
theorem Zez {o : DisV} (h : IsDi o) : nth (diC o) 1 = some (.int .i64 o.met) := by
 obtain ⟨f_seq, f_met⟩ := o
 rfl
theorem ZiM (o : DisV) : (diC o).all (·.oneCell') = true := by
 simp [pfC, ipC, diC, Value.oneCell']
def diZ : List Value := [.int .u16 0, .int .i64 0]
abbrev diK : List LK := [.i .u16, .i .i64]
theorem Zjq {o : DisV} (h : IsDi o) : Za7 diK (diC o) = true := by
 obtain ⟨f_seq, f_met⟩ := o
 rfl
theorem ZtZ {a b : DisV} (ha : IsDi a) (hb : IsDi b) : eqVs (diC a) (diC b) = decide (a = b) := by
 rw [Bool.eq_iff_iff, decide_eq_true_eq]
 obtain ⟨a_seq, a_met⟩ := a
 obtain ⟨b_seq, b_met⟩ := b
 simp only [diC, DisV.mk.injEq]
 simp [eqVs, eqV, Bool.and_eq_true, beq_iff_eq, Bool.and_true, and_assoc, decide_eq_true_eq, List.cons_append, List.nil_append]
structure AdvV where
 to : DstV
 own : DisV
 deriving DecidableEq
def avC (o : AdvV) : List Value := dvC o.to ++ (diC o.own)
def IsAv (o : AdvV) : Prop := IsDv o.to ∧ IsDi o.own
theorem Zdt {o : AdvV} (h : IsAv o) : (avC o).length = 37 := by
 obtain ⟨⟨f_to_dip, f_to_dbits, f_to_sip, f_to_sbits, f_to_rt⟩, ⟨f_own_seq, f_own_met⟩⟩ := o
 obtain ⟨x0_0, x0_1, x0_2, x0_3, x0_4, x0_5, x0_6, x0_7, x0_8, x0_9, x0_10, x0_11, x0_12, x0_13, x0_14, x0_15, e0⟩ := ZaC (show f_to_dip.length = 16 from (h.1.1).len)
 obtain ⟨x1_0, x1_1, x1_2, x1_3, x1_4, x1_5, x1_6, x1_7, x1_8, x1_9, x1_10, x1_11, x1_12, x1_13, x1_14, x1_15, e1⟩ := ZaC (show f_to_sip.length = 16 from (h.1.2).len)
 subst e0
 subst e1
 rfl
theorem Zuc {o : AdvV} (h : IsAv o) : seg (avC o) 0 37 = some (avC o) := ZfE (Zdt h)
theorem Zh0 {o : AdvV} (h : IsAv o) : seg (avC o) 0 35 = some (dvC o.to) := by
 obtain ⟨⟨f_to_dip, f_to_dbits, f_to_sip, f_to_sbits, f_to_rt⟩, ⟨f_own_seq, f_own_met⟩⟩ := o
 obtain ⟨x0_0, x0_1, x0_2, x0_3, x0_4, x0_5, x0_6, x0_7, x0_8, x0_9, x0_10, x0_11, x0_12, x0_13, x0_14, x0_15, e0⟩ := ZaC (show f_to_dip.length = 16 from (h.1.1).len)
 obtain ⟨x1_0, x1_1, x1_2, x1_3, x1_4, x1_5, x1_6, x1_7, x1_8, x1_9, x1_10, x1_11, x1_12, x1_13, x1_14, x1_15, e1⟩ := ZaC (show f_to_sip.length = 16 from (h.1.2).len)
 subst e0
 subst e1
 rfl
theorem Zrx {o : AdvV} (h : IsAv o) : seg (avC o) 35 2 = some (diC o.own) := by
 obtain ⟨⟨f_to_dip, f_to_dbits, f_to_sip, f_to_sbits, f_to_rt⟩, ⟨f_own_seq, f_own_met⟩⟩ := o
 obtain ⟨x0_0, x0_1, x0_2, x0_3, x0_4, x0_5, x0_6, x0_7, x0_8, x0_9, x0_10, x0_11, x0_12, x0_13, x0_14, x0_15, e0⟩ := ZaC (show f_to_dip.length = 16 from (h.1.1).len)
 obtain ⟨x1_0, x1_1, x1_2, x1_3, x1_4, x1_5, x1_6, x1_7, x1_8, x1_9, x1_10, x1_11, x1_12, x1_13, x1_14, x1_15, e1⟩ := ZaC (show f_to_sip.length = 16 from (h.1.2).len)
 subst e0
 subst e1
 rfl
theorem Zm3 {o : AdvV} (h : IsAv o) : nth (avC o) 36 = some (.int .i64 o.own.met) := by
 obtain ⟨⟨f_to_dip, f_to_dbits, f_to_sip, f_to_sbits, f_to_rt⟩, ⟨f_own_seq, f_own_met⟩⟩ := o
 obtain ⟨x0_0, x0_1, x0_2, x0_3, x0_4, x0_5, x0_6, x0_7, x0_8, x0_9, x0_10, x0_11, x0_12, x0_13, x0_14, x0_15, e0⟩ := ZaC (show f_to_dip.length = 16 from (h.1.1).len)
 obtain ⟨x1_0, x1_1, x1_2, x1_3, x1_4, x1_5, x1_6, x1_7, x1_8, x1_9, x1_10, x1_11, x1_12, x1_13, x1_14, x1_15, e1⟩ := ZaC (show f_to_sip.length = 16 from (h.1.2).len)
 subst e0
 subst e1
 rfl
theorem Zm2 {o : AdvV} (h : IsAv o) {z : DisV} (hz : IsDi z) : put (avC o) 35 (diC z) = some (avC { o with own := z }) := by
 obtain ⟨⟨f_to_dip, f_to_dbits, f_to_sip, f_to_sbits, f_to_rt⟩, ⟨f_own_seq, f_own_met⟩⟩ := o
 obtain ⟨x0_0, x0_1, x0_2, x0_3, x0_4, x0_5, x0_6, x0_7, x0_8, x0_9, x0_10, x0_11, x0_12, x0_13, x0_14, x0_15, e0⟩ := ZaC (show f_to_dip.length = 16 from (h.1.1).len)
 obtain ⟨x1_0, x1_1, x1_2, x1_3, x1_4, x1_5, x1_6, x1_7, x1_8, x1_9, x1_10, x1_11, x1_12, x1_13, x1_14, x1_15, e1⟩ := ZaC (show f_to_sip.length = 16 from (h.1.2).len)
 subst e0
 subst e1
 obtain ⟨z_seq, z_met⟩ := z
 rfl
theorem Zh1 {o : AdvV} (h : IsAv o) (z : Int) : put (avC o) 36 [.int .i64 z] = some (avC { o with own := { o.own with met := z } }) := by
 obtain ⟨⟨f_to_dip, f_to_dbits, f_to_sip, f_to_sbits, f_to_rt⟩, ⟨f_own_seq, f_own_met⟩⟩ := o
 obtain ⟨x0_0, x0_1, x0_2, x0_3, x0_4, x0_5, x0_6, x0_7, x0_8, x0_9, x0_10, x0_11, x0_12, x0_13, x0_14, x0_15, e0⟩ := ZaC (show f_to_dip.length = 16 from (h.1.1).len)
 obtain ⟨x1_0, x1_1, x1_2, x1_3, x1_4, x1_5, x1_6, x1_7, x1_8, x1_9, x1_10, x1_11, x1_12, x1_13, x1_14, x1_15, e1⟩ := ZaC (show f_to_sip.length = 16 from (h.1.2).len)
 subst e0
 subst e1
 rfl
theorem Ze0 (o : AdvV) : (avC o).all (·.oneCell') = true := by
 simp [pfC, ipC, avC, dvC, diC, Value.oneCell']
def avZ : List Value := [.int .u8 0, .int .u8 0, .int .u8 0, .int .u8 0, .int .u8 0, .int .u8 0, .int .u8 0, .int .u8 0, .int .u8 0, .int .u8 0, .int .u8 0, .int .u8 0, .int .u8 0, .int .u8 0, .int .u8 0, .int .u8 0, .int .i64 0, .int .u8 0, .int .u8 0, .int .u8 0, .int .u8 0, .int .u8 0, .int .u8 0, .int .u8 0, .int .u8 0, .int .u8 0, .int .u8 0, .int .u8 0, .int .u8 0, .int .u8 0, .int .u8 0, .int .u8 0, .int .u8 0, .int .i64 0, .int .u64 0, .int .u16 0, .int .i64 0]
theorem Zq0 {o : AdvV} (h : IsAv o) : Za2 [(0, 35), (35, 2)] avZ [(0, dvC o.to), (1, diC o.own)] = some (avC o) := by
 obtain ⟨⟨f_to_dip, f_to_dbits, f_to_sip, f_to_sbits, f_to_rt⟩, ⟨f_own_seq, f_own_met⟩⟩ := o
 obtain ⟨x0_0, x0_1, x0_2, x0_3, x0_4, x0_5, x0_6, x0_7, x0_8, x0_9, x0_10, x0_11, x0_12, x0_13, x0_14, x0_15, e0⟩ := ZaC (show f_to_dip.length = 16 from (h.1.1).len)
 obtain ⟨x1_0, x1_1, x1_2, x1_3, x1_4, x1_5, x1_6, x1_7, x1_8, x1_9, x1_10, x1_11, x1_12, x1_13, x1_14, x1_15, e1⟩ := ZaC (show f_to_sip.length = 16 from (h.1.2).len)
 subst e0
 subst e1
 rfl
theorem ZdN {o : AdvV} (h : IsAv o) : Za2 (ZbX 1 37) (ZbJ avZ (1 * 37)) [(0, avC o)] = some (avC o) := by
 obtain ⟨⟨f_to_dip, f_to_dbits, f_to_sip, f_to_sbits, f_to_rt⟩, ⟨f_own_seq, f_own_met⟩⟩ := o
 obtain ⟨x0_0, x0_1, x0_2, x0_3, x0_4, x0_5, x0_6, x0_7, x0_8, x0_9, x0_10, x0_11, x0_12, x0_13, x0_14, x0_15, e0⟩ := ZaC (show f_to_dip.length = 16 from (h.1.1).len)
 obtain ⟨x1_0, x1_1, x1_2, x1_3, x1_4, x1_5, x1_6, x1_7, x1_8, x1_9, x1_10, x1_11, x1_12, x1_13, x1_14, x1_15, e1⟩ := ZaC (show f_to_sip.length = 16 from (h.1.2).len)
 subst e0
 subst e1
 rfl
abbrev avsC (l : List AdvV) : List Value := encL avC l
theorem ZgA {l : List AdvV} (h : ∀ x ∈ l, IsAv x) : ∀ x ∈ l, (avC x).length = 37 := fun x hx => Zdt (h x hx)
theorem ZsP {l : List AdvV} : (avsC l).all (·.oneCell') = true := Zeo fun x _ => Ze0 x
structure InsV where
 to : DstV
 nb : Int
 own : DisV
 btn : Int
 til : Int
 deriving DecidableEq
def inC (o : InsV) : List Value := dvC o.to ++ ([.int .u64 o.nb] ++ (diC o.own ++ ([.int .i64 o.btn, .int .i64 o.til])))
def IsIn (o : InsV) : Prop := IsDv o.to ∧ IsDi o.own
theorem Zaj {o : InsV} (h : IsIn o) : (inC o).length = 40 := by
 obtain ⟨⟨f_to_dip, f_to_dbits, f_to_sip, f_to_sbits, f_to_rt⟩, f_nb, ⟨f_own_seq, f_own_met⟩, f_btn, f_til⟩ := o
 obtain ⟨x0_0, x0_1, x0_2, x0_3, x0_4, x0_5, x0_6, x0_7, x0_8, x0_9, x0_10, x0_11, x0_12, x0_13, x0_14, x0_15, e0⟩ := ZaC (show f_to_dip.length = 16 from (h.1.1).len)
 obtain ⟨x1_0, x1_1, x1_2, x1_3, x1_4, x1_5, x1_6, x1_7, x1_8, x1_9, x1_10, x1_11, x1_12, x1_13, x1_14, x1_15, e1⟩ := ZaC (show f_to_sip.length = 16 from (h.1.2).len)
 subst e0
 subst e1
 rfl
theorem Zbi {o : InsV} (h : IsIn o) : seg (inC o) 0 40 = some (inC o) := ZfE (Zaj h)
theorem Zcy {o : InsV} (h : IsIn o) : seg (inC o) 0 35 = some (dvC o.to) := by
 obtain ⟨⟨f_to_dip, f_to_dbits, f_to_sip, f_to_sbits, f_to_rt⟩, f_nb, ⟨f_own_seq, f_own_met⟩, f_btn, f_til⟩ := o
 obtain ⟨x0_0, x0_1, x0_2, x0_3, x0_4, x0_5, x0_6, x0_7, x0_8, x0_9, x0_10, x0_11, x0_12, x0_13, x0_14, x0_15, e0⟩ := ZaC (show f_to_dip.length = 16 from (h.1.1).len)
 obtain ⟨x1_0, x1_1, x1_2, x1_3, x1_4, x1_5, x1_6, x1_7, x1_8, x1_9, x1_10, x1_11, x1_12, x1_13, x1_14, x1_15, e1⟩ := ZaC (show f_to_sip.length = 16 from (h.1.2).len)
 subst e0
 subst e1
 rfl
theorem Zhw {o : InsV} (h : IsIn o) : seg (inC o) 0 17 = some (pfC o.to.dip o.to.dbits) := by
 obtain ⟨⟨f_to_dip, f_to_dbits, f_to_sip, f_to_sbits, f_to_rt⟩, f_nb, ⟨f_own_seq, f_own_met⟩, f_btn, f_til⟩ := o
 obtain ⟨x0_0, x0_1, x0_2, x0_3, x0_4, x0_5, x0_6, x0_7, x0_8, x0_9, x0_10, x0_11, x0_12, x0_13, x0_14, x0_15, e0⟩ := ZaC (show f_to_dip.length = 16 from (h.1.1).len)
 obtain ⟨x1_0, x1_1, x1_2, x1_3, x1_4, x1_5, x1_6, x1_7, x1_8, x1_9, x1_10, x1_11, x1_12, x1_13, x1_14, x1_15, e1⟩ := ZaC (show f_to_sip.length = 16 from (h.1.2).len)
 subst e0
 subst e1
 rfl
theorem Zhv {o : InsV} (h : IsIn o) : seg (inC o) 17 17 = some (pfC o.to.sip o.to.sbits) := by
 obtain ⟨⟨f_to_dip, f_to_dbits, f_to_sip, f_to_sbits, f_to_rt⟩, f_nb, ⟨f_own_seq, f_own_met⟩, f_btn, f_til⟩ := o
 obtain ⟨x0_0, x0_1, x0_2, x0_3, x0_4, x0_5, x0_6, x0_7, x0_8, x0_9, x0_10, x0_11, x0_12, x0_13, x0_14, x0_15, e0⟩ := ZaC (show f_to_dip.length = 16 from (h.1.1).len)
 obtain ⟨x1_0, x1_1, x1_2, x1_3, x1_4, x1_5, x1_6, x1_7, x1_8, x1_9, x1_10, x1_11, x1_12, x1_13, x1_14, x1_15, e1⟩ := ZaC (show f_to_sip.length = 16 from (h.1.2).len)
 subst e0
 subst e1
 rfl
theorem ZfT {o : InsV} (h : IsIn o) : nth (inC o) 34 = some (.int .u64 o.to.rt) := by
 obtain ⟨⟨f_to_dip, f_to_dbits, f_to_sip, f_to_sbits, f_to_rt⟩, f_nb, ⟨f_own_seq, f_own_met⟩, f_btn, f_til⟩ := o
 obtain ⟨x0_0, x0_1, x0_2, x0_3, x0_4, x0_5, x0_6, x0_7, x0_8, x0_9, x0_10, x0_11, x0_12, x0_13, x0_14, x0_15, e0⟩ := ZaC (show f_to_dip.length = 16 from (h.1.1).len)
 obtain ⟨x1_0, x1_1, x1_2, x1_3, x1_4, x1_5, x1_6, x1_7, x1_8, x1_9, x1_10, x1_11, x1_12, x1_13, x1_14, x1_15, e1⟩ := ZaC (show f_to_sip.length = 16 from (h.1.2).len)
 subst e0
 subst e1
 rfl
theorem Zor {o : InsV} (h : IsIn o) {z : DstV} (hz : IsDv z) : put (inC o) 0 (dvC z) = some (inC { o with to := z }) := by
 obtain ⟨⟨f_to_dip, f_to_dbits, f_to_sip, f_to_sbits, f_to_rt⟩, f_nb, ⟨f_own_seq, f_own_met⟩, f_btn, f_til⟩ := o
 obtain ⟨x0_0, x0_1, x0_2, x0_3, x0_4, x0_5, x0_6, x0_7, x0_8, x0_9, x0_10, x0_11, x0_12, x0_13, x0_14, x0_15, e0⟩ := ZaC (show f_to_dip.length = 16 from (h.1.1).len)
 obtain ⟨x1_0, x1_1, x1_2, x1_3, x1_4, x1_5, x1_6, x1_7, x1_8, x1_9, x1_10, x1_11, x1_12, x1_13, x1_14, x1_15, e1⟩ := ZaC (show f_to_sip.length = 16 from (h.1.2).len)
 subst e0
 subst e1
 obtain ⟨z_dip, z_dbits, z_sip, z_sbits, z_rt⟩ := z
 obtain ⟨y0_0, y0_1, y0_2, y0_3, y0_4, y0_5, y0_6, y0_7, y0_8, y0_9, y0_10, y0_11, y0_12, y0_13, y0_14, y0_15, g0⟩ := ZaC (show z_dip.length = 16 from (hz.1).len)
 obtain ⟨y1_0, y1_1, y1_2, y1_3, y1_4, y1_5, y1_6, y1_7, y1_8, y1_9, y1_10, y1_11, y1_12, y1_13, y1_14, y1_15, g1⟩ := ZaC (show z_sip.length = 16 from (hz.2).len)
 subst g0
 subst g1
 rfl
theorem ZgO {o : InsV} (h : IsIn o) : nth (inC o) 35 = some (.int .u64 o.nb) := by
 obtain ⟨⟨f_to_dip, f_to_dbits, f_to_sip, f_to_sbits, f_to_rt⟩, f_nb, ⟨f_own_seq, f_own_met⟩, f_btn, f_til⟩ := o
 obtain ⟨x0_0, x0_1, x0_2, x0_3, x0_4, x0_5, x0_6, x0_7, x0_8, x0_9, x0_10, x0_11, x0_12, x0_13, x0_14, x0_15, e0⟩ := ZaC (show f_to_dip.length = 16 from (h.1.1).len)
 obtain ⟨x1_0, x1_1, x1_2, x1_3, x1_4, x1_5, x1_6, x1_7, x1_8, x1_9, x1_10, x1_11, x1_12, x1_13, x1_14, x1_15, e1⟩ := ZaC (show f_to_sip.length = 16 from (h.1.2).len)
 subst e0
 subst e1
 rfl
theorem Zke {o : InsV} (h : IsIn o) (z : Int) : put (inC o) 35 [.int .u64 z] = some (inC { o with nb := z }) := by
 obtain ⟨⟨f_to_dip, f_to_dbits, f_to_sip, f_to_sbits, f_to_rt⟩, f_nb, ⟨f_own_seq, f_own_met⟩, f_btn, f_til⟩ := o
 obtain ⟨x0_0, x0_1, x0_2, x0_3, x0_4, x0_5, x0_6, x0_7, x0_8, x0_9, x0_10, x0_11, x0_12, x0_13, x0_14, x0_15, e0⟩ := ZaC (show f_to_dip.length = 16 from (h.1.1).len)
 obtain ⟨x1_0, x1_1, x1_2, x1_3, x1_4, x1_5, x1_6, x1_7, x1_8, x1_9, x1_10, x1_11, x1_12, x1_13, x1_14, x1_15, e1⟩ := ZaC (show f_to_sip.length = 16 from (h.1.2).len)
 subst e0
 subst e1
 rfl
theorem ZiG {o : InsV} (h : IsIn o) : seg (inC o) 36 2 = some (diC o.own) := by
 obtain ⟨⟨f_to_dip, f_to_dbits, f_to_sip, f_to_sbits, f_to_rt⟩, f_nb, ⟨f_own_seq, f_own_met⟩, f_btn, f_til⟩ := o
 obtain ⟨x0_0, x0_1, x0_2, x0_3, x0_4, x0_5, x0_6, x0_7, x0_8, x0_9, x0_10, x0_11, x0_12, x0_13, x0_14, x0_15, e0⟩ := ZaC (show f_to_dip.length = 16 from (h.1.1).len)
 obtain ⟨x1_0, x1_1, x1_2, x1_3, x1_4, x1_5, x1_6, x1_7, x1_8, x1_9, x1_10, x1_11, x1_12, x1_13, x1_14, x1_15, e1⟩ := ZaC (show f_to_sip.length = 16 from (h.1.2).len)
 subst e0
 subst e1
 rfl
theorem ZbC {o : InsV} (h : IsIn o) : nth (inC o) 37 = some (.int .i64 o.own.met) := by
 obtain ⟨⟨f_to_dip, f_to_dbits, f_to_sip, f_to_sbits, f_to_rt⟩, f_nb, ⟨f_own_seq, f_own_met⟩, f_btn, f_til⟩ := o
 obtain ⟨x0_0, x0_1, x0_2, x0_3, x0_4, x0_5, x0_6, x0_7, x0_8, x0_9, x0_10, x0_11, x0_12, x0_13, x0_14, x0_15, e0⟩ := ZaC (show f_to_dip.length = 16 from (h.1.1).len)
 obtain ⟨x1_0, x1_1, x1_2, x1_3, x1_4, x1_5, x1_6, x1_7, x1_8, x1_9, x1_10, x1_11, x1_12, x1_13, x1_14, x1_15, e1⟩ := ZaC (show f_to_sip.length = 16 from (h.1.2).len)
 subst e0
 subst e1
 rfl
theorem ZhX {o : InsV} (h : IsIn o) (z : Int) : put (inC o) 37 [.int .i64 z] = some (inC { o with own := { o.own with met := z } }) := by
 obtain ⟨⟨f_to_dip, f_to_dbits, f_to_sip, f_to_sbits, f_to_rt⟩, f_nb, ⟨f_own_seq, f_own_met⟩, f_btn, f_til⟩ := o
 obtain ⟨x0_0, x0_1, x0_2, x0_3, x0_4, x0_5, x0_6, x0_7, x0_8, x0_9, x0_10, x0_11, x0_12, x0_13, x0_14, x0_15, e0⟩ := ZaC (show f_to_dip.length = 16 from (h.1.1).len)
 obtain ⟨x1_0, x1_1, x1_2, x1_3, x1_4, x1_5, x1_6, x1_7, x1_8, x1_9, x1_10, x1_11, x1_12, x1_13, x1_14, x1_15, e1⟩ := ZaC (show f_to_sip.length = 16 from (h.1.2).len)
 subst e0
 subst e1
 rfl
theorem ZiH {o : InsV} (h : IsIn o) : nth (inC o) 38 = some (.int .i64 o.btn) := by
 obtain ⟨⟨f_to_dip, f_to_dbits, f_to_sip, f_to_sbits, f_to_rt⟩, f_nb, ⟨f_own_seq, f_own_met⟩, f_btn, f_til⟩ := o
 obtain ⟨x0_0, x0_1, x0_2, x0_3, x0_4, x0_5, x0_6, x0_7, x0_8, x0_9, x0_10, x0_11, x0_12, x0_13, x0_14, x0_15, e0⟩ := ZaC (show f_to_dip.length = 16 from (h.1.1).len)
 obtain ⟨x1_0, x1_1, x1_2, x1_3, x1_4, x1_5, x1_6, x1_7, x1_8, x1_9, x1_10, x1_11, x1_12, x1_13, x1_14, x1_15, e1⟩ := ZaC (show f_to_sip.length = 16 from (h.1.2).len)
 subst e0
 subst e1
 rfl
theorem ZmQ {o : InsV} (h : IsIn o) (z : Int) : put (inC o) 38 [.int .i64 z] = some (inC { o with btn := z }) := by
 obtain ⟨⟨f_to_dip, f_to_dbits, f_to_sip, f_to_sbits, f_to_rt⟩, f_nb, ⟨f_own_seq, f_own_met⟩, f_btn, f_til⟩ := o
 obtain ⟨x0_0, x0_1, x0_2, x0_3, x0_4, x0_5, x0_6, x0_7, x0_8, x0_9, x0_10, x0_11, x0_12, x0_13, x0_14, x0_15, e0⟩ := ZaC (show f_to_dip.length = 16 from (h.1.1).len)
 obtain ⟨x1_0, x1_1, x1_2, x1_3, x1_4, x1_5, x1_6, x1_7, x1_8, x1_9, x1_10, x1_11, x1_12, x1_13, x1_14, x1_15, e1⟩ := ZaC (show f_to_sip.length = 16 from (h.1.2).len)
 subst e0
 subst e1
 rfl
theorem ZiF {o : InsV} (h : IsIn o) : nth (inC o) 39 = some (.int .i64 o.til) := by
 obtain ⟨⟨f_to_dip, f_to_dbits, f_to_sip, f_to_sbits, f_to_rt⟩, f_nb, ⟨f_own_seq, f_own_met⟩, f_btn, f_til⟩ := o
 obtain ⟨x0_0, x0_1, x0_2, x0_3, x0_4, x0_5, x0_6, x0_7, x0_8, x0_9, x0_10, x0_11, x0_12, x0_13, x0_14, x0_15, e0⟩ := ZaC (show f_to_dip.length = 16 from (h.1.1).len)
 obtain ⟨x1_0, x1_1, x1_2, x1_3, x1_4, x1_5, x1_6, x1_7, x1_8, x1_9, x1_10, x1_11, x1_12, x1_13, x1_14, x1_15, e1⟩ := ZaC (show f_to_sip.length = 16 from (h.1.2).len)
 subst e0
 subst e1
 rfl
theorem ZmP {o : InsV} (h : IsIn o) (z : Int) : put (inC o) 39 [.int .i64 z] = some (inC { o with til := z }) := by
 obtain ⟨⟨f_to_dip, f_to_dbits, f_to_sip, f_to_sbits, f_to_rt⟩, f_nb, ⟨f_own_seq, f_own_met⟩, f_btn, f_til⟩ := o
 obtain ⟨x0_0, x0_1, x0_2, x0_3, x0_4, x0_5, x0_6, x0_7, x0_8, x0_9, x0_10, x0_11, x0_12, x0_13, x0_14, x0_15, e0⟩ := ZaC (show f_to_dip.length = 16 from (h.1.1).len)
 obtain ⟨x1_0, x1_1, x1_2, x1_3, x1_4, x1_5, x1_6, x1_7, x1_8, x1_9, x1_10, x1_11, x1_12, x1_13, x1_14, x1_15, e1⟩ := ZaC (show f_to_sip.length = 16 from (h.1.2).len)
 subst e0
 subst e1
 rfl
theorem ZaY (o : InsV) : (inC o).all (·.oneCell') = true := by
 simp [pfC, ipC, inC, dvC, diC, Value.oneCell']
def inZ : List Value := [.int .u8 0, .int .u8 0, .int .u8 0, .int .u8 0, .int .u8 0, .int .u8 0, .int .u8 0, .int .u8 0, .int .u8 0, .int .u8 0, .int .u8 0, .int .u8 0, .int .u8 0, .int .u8 0, .int .u8 0, .int .u8 0, .int .i64 0, .int .u8 0, .int .u8 0, .int .u8 0, .int .u8 0, .int .u8 0, .int .u8 0, .int .u8 0, .int .u8 0, .int .u8 0, .int .u8 0, .int .u8 0, .int .u8 0, .int .u8 0, .int .u8 0, .int .u8 0, .int .u8 0, .int .i64 0, .int .u64 0, .int .u64 0, .int .u16 0, .int .i64 0, .int .i64 0, .int .i64 0]
theorem Zqy {o : InsV} (h : IsIn o) : Za2 [(0, 35), (35, 1), (36, 2), (38, 1), (39, 1)] inZ [(0, dvC o.to), (1, [.int .u64 o.nb]), (2, diC o.own), (3, [.int .i64 o.btn]), (4, [.int .i64 o.til])] = some (inC o) := by
 obtain ⟨⟨f_to_dip, f_to_dbits, f_to_sip, f_to_sbits, f_to_rt⟩, f_nb, ⟨f_own_seq, f_own_met⟩, f_btn, f_til⟩ := o
 obtain ⟨x0_0, x0_1, x0_2, x0_3, x0_4, x0_5, x0_6, x0_7, x0_8, x0_9, x0_10, x0_11, x0_12, x0_13, x0_14, x0_15, e0⟩ := ZaC (show f_to_dip.length = 16 from (h.1.1).len)
 obtain ⟨x1_0, x1_1, x1_2, x1_3, x1_4, x1_5, x1_6, x1_7, x1_8, x1_9, x1_10, x1_11, x1_12, x1_13, x1_14, x1_15, e1⟩ := ZaC (show f_to_sip.length = 16 from (h.1.2).len)
 subst e0
 subst e1
 rfl
theorem ZbY {o : InsV} (h : IsIn o) : Za2 (ZbX 1 40) (ZbJ inZ (1 * 40)) [(0, inC o)] = some (inC o) := by
 obtain ⟨⟨f_to_dip, f_to_dbits, f_to_sip, f_to_sbits, f_to_rt⟩, f_nb, ⟨f_own_seq, f_own_met⟩, f_btn, f_til⟩ := o
 obtain ⟨x0_0, x0_1, x0_2, x0_3, x0_4, x0_5, x0_6, x0_7, x0_8, x0_9, x0_10, x0_11, x0_12, x0_13, x0_14, x0_15, e0⟩ := ZaC (show f_to_dip.length = 16 from (h.1.1).len)
 obtain ⟨x1_0, x1_1, x1_2, x1_3, x1_4, x1_5, x1_6, x1_7, x1_8, x1_9, x1_10, x1_11, x1_12, x1_13, x1_14, x1_15, e1⟩ := ZaC (show f_to_sip.length = 16 from (h.1.2).len)
 subst e0
 subst e1
 rfl
abbrev insC (l : List InsV) : List Value := encL inC l
theorem Zb5 {l : List InsV} (h : ∀ x ∈ l, IsIn x) : ∀ x ∈ l, (inC x).length = 40 := fun x hx => Zaj (h x hx)
theorem Zsn {l : List InsV} : (insC l).all (·.oneCell') = true := Zeo fun x _ => ZaY x
end Go.Proofs.YtfhkmgcalcfibaaGreat
namespace Go.Proofs.YtfhkmgcalcfibaaGreat
def keyD (d : DstV) : List Int := d.dip ++ (d.dbits :: (d.sip ++ [d.sbits, d.rt]))
def cmpD (a b : DstV) : Int := cmpL (keyD a) (keyD b)
theorem Zf5 (a : DstV) : cmpD a a = 0 := ZhI _
theorem ZeZ (a b : DstV) : cmpD b a = - cmpD a b := Zkm _ _
theorem Zcr {a b c : DstV} (h : cmpD a b < 0) (k : cmpD b c < 0) : cmpD a c < 0 := ZdA h k
theorem Zf4 {a b : DstV} (ha : IsDv a) (hb : IsDv b) (h : cmpD a b = 0) : a = b := by
 have h1 := ZhH h
 obtain ⟨d1, d2, s1, s2, r⟩ := a
 obtain ⟨e1, e2, t1, t2, q⟩ := b
 simp only [keyD] at h1
 obtain ⟨h2, h3⟩ := List.append_inj h1 (by rw [(show IsIP d1 from ha.1).len, (show IsIP e1 from hb.1).len])
 simp only [List.cons.injEq] at h3
 obtain ⟨h4, h5⟩ := List.append_inj h3.2 (by rw [(show IsIP s1 from ha.2).len, (show IsIP t1 from hb.2).len])
 simp only [List.cons.injEq, and_true] at h5
 rw [h2, h3.1, h4, h5.1, h5.2]
def cmpI (a b : Int) : Int := if a < b then -1 else if b < a then 1 else 0
def orI (a b : Int) : Int := if a = 0 then b else a
theorem Zd9 (x y : Int) (xs ys : List Int) : cmpL (x :: xs) (y :: ys) = orI (cmpI x y) (cmpL xs ys) := by
 simp only [cmpL, orI, cmpI]
 split
 ·rfl
 ·split <;> rfl
theorem Zg2 : ∀ (xs ys us vs : List Int), xs.length = ys.length → cmpL (xs ++ us) (ys ++ vs) = orI (cmpL xs ys) (cmpL us vs)
 | [], [], _, _, _ => rfl
 | x :: xs, y :: ys, us, vs, h => by
  rw [List.cons_append, List.cons_append, Zd9, Zd9, Zg2 xs ys us vs (by simpa using h)]
  simp only [orI]
  split <;> simp_all
 | [], _ :: _, _, _, h => by cases h
 | _ :: _, [], _, _, h => by cases h
theorem Zo5 {a b : DstV} (ha : IsDv a) (hb : IsDv b) : cmpD a b = orI (cmpL a.dip b.dip) (orI (cmpI a.dbits b.dbits) (orI (cmpL a.sip b.sip) (orI (cmpI a.sbits b.sbits) (cmpI a.rt b.rt)))) := by
 unfold cmpD keyD
 rw [Zg2 _ _ _ _ (by rw [ha.1.len, hb.1.len]), Zd9, Zg2 _ _ _ _ (by rw [ha.2.len, hb.2.len]), Zd9, Zd9]
 congr 4
 simp only [cmpL, orI, cmpI]
 split <;> simp_all
section asc
variable {α : Type} (key : α → DstV)
def AscK (l : List α) : Prop := l.Pairwise fun a b => cmpD (key a) (key b) < 0
theorem ZhN : ∀ (az bs : List α), AscK key az → AscK key bs → (∀ x, x ∈ az ↔ x ∈ bs) → az = bs
 | [], bs, _, _, h => by
  cases bs with
  | nil => rfl
  | cons b bs => have := (h b).2 (by simp);cases this
 | a :: az, [], _, _, h => by have := (h a).1 (by simp);cases this
 | a :: az, b :: bs, ha, hb, h => by
  obtain ⟨ha1, ha2⟩ := List.pairwise_cons.1 ha
  obtain ⟨hb1, hb2⟩ := List.pairwise_cons.1 hb
  have hab : a = b := by
   rcases List.mem_cons.1 ((h a).1 (by simp)) with h1 | h1
   ·exact h1
   ·rcases List.mem_cons.1 ((h b).2 (by simp)) with h2 | h2
    ·exact h2.symm
    ·have h3 := hb1 a h1
     have h4 := ha1 b h2
     have := ZeZ (key a) (key b)
     omega
  subst hab
  have hne : ∀ x, cmpD (key a) (key x) < 0 → x ≠ a := fun x hx e => by rw [e, Zf5] at hx;omega
  rw [ZhN az bs ha2 hb2 fun x => ⟨fun hx => by
   rcases List.mem_cons.1 ((h x).1 (by simp [hx])) with h1 | h1
   ·exact absurd h1 (hne x (ha1 x hx))
   ·exact h1, fun hx => by
   rcases List.mem_cons.1 ((h x).2 (by simp [hx])) with h1 | h1
   ·exact absurd h1 (hne x (hb1 x hx))
   ·exact h1⟩]
variable {key}
theorem AscK.sub {l m : List α} (h : AscK key l) (hs : m.Sublist l) : AscK key m := List.Pairwise.sublist hs h
theorem AscK.filter {l : List α} (h : AscK key l) (f : α → Bool) : AscK key (l.filter f) := h.sub List.filter_sublist
end asc
def inf : Int := 65535
def getO (l : List AdvV) (t : DstV) : Option DisV := (l.find? fun a => decide (a.to = t)).map (·.own)
abbrev AscA (l : List AdvV) : Prop := AscK AdvV.to l
def Lo (d : DstV) (l : List AdvV) : Prop := ∀ x ∈ l, cmpD d x.to < 0
theorem Lo.trans {d e : DstV} {l : List AdvV} (h : Lo e l) (k : cmpD d e < 0) : Lo d l := fun x hx => Zcr k (h x hx)
theorem Zoy (a : AdvV) (l : List AdvV) (t : DstV) : getO (a :: l) t = if a.to = t then some a.own else getO l t := by
 unfold getO
 rw [List.find?_cons]
 by_cases h : a.to = t
 ·simp [h]
 ·simp [h]
def Zcs (d : DstV) : Bool := ZbO d.dip d.dbits && ZbO d.sip d.sbits && !decide (d.rt = 0)
def Zdp (m : Int) : Bool := decide (0 ≤ m) && decide (m ≤ 65535)
def adv1 (l : List AdvV) (i : Nat) : Bool := match l[i]? with
 | none => true
 | some a => Zcs a.to && Zdp a.own.met && (decide (i = 0) || match l[i - 1]? with
  | none => true
  | some b => decide (cmpD b.to a.to < 0))
def Zee (l : List AdvV) : Bool := decide (l.length ≤ 520) && (List.range l.length).all (adv1 l)
end Go.Proofs.YtfhkmgcalcfibaaGreat
namespace Go.Proofs.YtfhkmgcalcfibaaGreat
open Go.RowKit
attribute [local irreducible] OpTo wpListIn Code.wpIn MW Cal
theorem Zni (t : Int) (W : World) : Cal Tryz.prog 196 [.int .i64 t].toArray W fun v w' => v = .bool (Za5 t) ∧ Ext [] W w' := by
 unfold Za5
 by_cases h : 0 ≤ t
 ·rw [dqT h, Bool.true_and]
  exact Zao (n := 9) (S := []) Zal Zak Tryz.func196 rfl rfl rfl (gR 10 rfl (ZaQ 5 rfl (dqT (by omega)) (gR 7 rfl (Zab rfl rfl rfl fun w M => ⟨rfl, M.ext⟩))))
 ·rw [dqF h, Bool.false_and]
  exact Zao (n := 9) (S := []) Zal Zak Tryz.func196 rfl rfl rfl (gR 10 rfl (ZaQ 5 rfl (dqF (by omega)) (gR 7 rfl (Zab rfl rfl rfl fun w M => ⟨rfl, M.ext⟩))))
theorem ZlR (t : Int) (W : World) : Cal Tryz.prog 170 [.int .i64 t].toArray W fun v w' => v = .bool (Zdp t) ∧ Ext [] W w' := by
 unfold Zdp
 by_cases h : 0 ≤ t
 ·rw [dqT h, Bool.true_and]
  exact Zao (n := 9) (S := []) Zal Zak Tryz.func170 rfl rfl rfl (gR 10 rfl (ZaQ 5 rfl (dqT (by omega)) (gR 7 rfl (Zab rfl rfl rfl fun w M => ⟨rfl, M.ext⟩))))
 ·rw [dqF h, Bool.false_and]
  exact Zao (n := 9) (S := []) Zal Zak Tryz.func170 rfl rfl rfl (gR 10 rfl (ZaQ 5 rfl (dqF (by omega)) (gR 7 rfl (Zab rfl rfl rfl fun w M => ⟨rfl, M.ext⟩))))
theorem ZnD (t : Int) (W : World) : Cal Tryz.prog 225 [.int .i64 t].toArray W fun v w' => v = .bool (Zdp t) ∧ Ext [] W w' := by
 unfold Zdp
 by_cases h : 0 ≤ t
 ·rw [dqT h, Bool.true_and]
  exact Zao (n := 9) (S := []) Zal Zak Tryz.func225 rfl rfl rfl (gR 10 rfl (ZaQ 5 rfl (dqT (by omega)) (gR 7 rfl (Zab rfl rfl rfl fun w M => ⟨rfl, M.ext⟩))))
 ·rw [dqF h, Bool.false_and]
  exact Zao (n := 9) (S := []) Zal Zak Tryz.func225 rfl rfl rfl (gR 10 rfl (ZaQ 5 rfl (dqF (by omega)) (gR 7 rfl (Zab rfl rfl rfl fun w M => ⟨rfl, M.ext⟩))))
theorem Zcv (d : DisV) (W : World) : Cal Tryz.prog 167 [.agg (diC d).toArray].toArray W fun v w' => v = .bool (Zdp d.met) ∧ Ext [] W w' := by
 have e1 := Zez (o := d) trivial
 exact Zao (n := 6) (S := []) Zal Zak Tryz.func167 rfl rfl rfl (gR 2 rfl (ZaA rfl rfl fun b1 => gR 6 rfl (Zai 0 rfl rfl (Zez trivial) (Zad rfl rfl (fun w M => ZnD _ _) (gR 4 rfl (Zab rfl rfl rfl fun w M => ⟨rfl, M.ext⟩))))))
theorem ZcI (d : DstV) (hd : IsDv d) (W : World) : Cal Tryz.prog 125 [.agg (dvC d).toArray].toArray W fun v w' => v = .bool (Zcs d) ∧ Ext [] W w' := by
 have l1 := hd.1.len
 have l2 := hd.2.len
 have i1 : IsIP d.dip := hd.1
 have i2 : IsIP d.sip := hd.2
 unfold Zcs
 refine Zao (n := 16) (S := []) Zal Zak Tryz.func125 rfl rfl rfl ?_
 cases h1 : ZbO d.dip d.dbits
 ·refine gR 2 rfl ?_
  refine ZaA rfl rfl fun b1 => gR 6 rfl (Zah 0 rfl rfl (Zb9 ‹_›) ?_)
  refine Zad rfl rfl (fun w M => Zb2 _ _ ‹_› _) ?_
  refine gR 1 rfl (ZaQ 6 rfl ‹_› ?_)
  exact gR 13 rfl (Zab rfl rfl rfl fun w M => ⟨rfl, M.ext⟩)
 ·cases h2 : ZbO d.sip d.sbits
  ·refine gR 2 rfl ?_
   refine ZaA rfl rfl fun b1 => gR 6 rfl (Zah 0 rfl rfl (Zb9 ‹_›) ?_)
   refine Zad rfl rfl (fun w M => Zb2 _ _ ‹_› _) ?_
   refine gR 1 rfl (ZaQ 6 rfl ‹_› ?_)
   refine gR 1 rfl (Zah 0 rfl rfl (ZcP ‹_›) ?_)
   refine Zad rfl rfl (fun w M => Zb2 _ _ ‹_› _) ?_
   refine gR 2 rfl (ZaQ 11 rfl ‹_› ?_)
   exact gR 8 rfl (Zab rfl rfl rfl fun w M => ⟨rfl, M.ext⟩)
  ·refine gR 2 rfl ?_
   refine ZaA rfl rfl fun b1 => gR 6 rfl (Zah 0 rfl rfl (Zb9 ‹_›) ?_)
   refine Zad rfl rfl (fun w M => Zb2 _ _ ‹_› _) ?_
   refine gR 1 rfl (ZaQ 6 rfl ‹_› ?_)
   refine gR 1 rfl (Zah 0 rfl rfl (ZcP ‹_›) ?_)
   refine Zad rfl rfl (fun w M => Zb2 _ _ ‹_› _) ?_
   refine gR 2 rfl (ZaQ 11 rfl ‹_› ?_)
   refine gR 1 rfl (Zai 0 rfl rfl (Zdz ‹_›) ?_)
   exact gR 6 rfl (Zab rfl rfl rfl fun w M => ⟨rfl, M.ext⟩)
theorem Zbg (d : DstV) (hd : IsDv d) (W : World) : Cal Tryz.prog 73 [.agg (dvC d).toArray].toArray W fun v w' => v = .bool (Zcs d) ∧ Ext [] W w' := by
 have l1 := hd.1.len
 have l2 := hd.2.len
 have i1 : IsIP d.dip := hd.1
 have i2 : IsIP d.sip := hd.2
 unfold Zcs
 refine Zao (n := 16) (S := []) Zal Zak Tryz.func73 rfl rfl rfl ?_
 cases h1 : ZbO d.dip d.dbits
 ·refine gR 2 rfl ?_
  refine ZaA rfl rfl fun b1 => gR 6 rfl (Zah 0 rfl rfl (Zb9 ‹_›) ?_)
  refine Zad rfl rfl (fun w M => ZbR _ _ ‹_› _) ?_
  refine gR 1 rfl (ZaQ 6 rfl ‹_› ?_)
  exact gR 13 rfl (Zab rfl rfl rfl fun w M => ⟨rfl, M.ext⟩)
 ·cases h2 : ZbO d.sip d.sbits
  ·refine gR 2 rfl ?_
   refine ZaA rfl rfl fun b1 => gR 6 rfl (Zah 0 rfl rfl (Zb9 ‹_›) ?_)
   refine Zad rfl rfl (fun w M => ZbR _ _ ‹_› _) ?_
   refine gR 1 rfl (ZaQ 6 rfl ‹_› ?_)
   refine gR 1 rfl (Zah 0 rfl rfl (ZcP ‹_›) ?_)
   refine Zad rfl rfl (fun w M => ZbR _ _ ‹_› _) ?_
   refine gR 2 rfl (ZaQ 11 rfl ‹_› ?_)
   exact gR 8 rfl (Zab rfl rfl rfl fun w M => ⟨rfl, M.ext⟩)
  ·refine gR 2 rfl ?_
   refine ZaA rfl rfl fun b1 => gR 6 rfl (Zah 0 rfl rfl (Zb9 ‹_›) ?_)
   refine Zad rfl rfl (fun w M => ZbR _ _ ‹_› _) ?_
   refine gR 1 rfl (ZaQ 6 rfl ‹_› ?_)
   refine gR 1 rfl (Zah 0 rfl rfl (ZcP ‹_›) ?_)
   refine Zad rfl rfl (fun w M => ZbR _ _ ‹_› _) ?_
   refine gR 2 rfl (ZaQ 11 rfl ‹_› ?_)
   refine gR 1 rfl (Zai 0 rfl rfl (Zdz ‹_›) ?_)
   exact gR 6 rfl (Zab rfl rfl rfl fun w M => ⟨rfl, M.ext⟩)
theorem ZcX (x y : DstV) (ha : IsDv x) (hb : IsDv y) (W : World) : Cal Tryz.prog 87 [.agg (dvC x).toArray, .agg (dvC y).toArray].toArray W fun v w' => v = .int .i64 (cmpD x y) ∧ Ext [] W w' := by
 have a1 := ZoT ha
 have a2 := Zbf ha
 have a3 := ZoQ ha
 have a4 := Zbr ha
 have a5 := Zdz ha
 have c1 := ZoT hb
 have c2 := Zbf hb
 have c3 := ZoQ hb
 have c4 := Zbr hb
 have c5 := Zdz hb
 have hr : cmpD x y = orV [cmpL x.dip y.dip, cmpV x.dbits y.dbits, cmpL x.sip y.sip, cmpV x.sbits y.sbits, cmpV x.rt y.rt] := by
  rw [Zo5 ha hb]
  simp only [orV, orI]
  repeat' split
  all_goals first | rfl | (rename_i h;exact h) | (rename_i h;exact h.symm) | simp_all [cmpI, cmpV]
 rw [hr]
 refine ZbU (n := 40) [] Tryz.func87 rfl rfl rfl ?_
 intro a w F M hwW
 refine ZaB (Zaf ?_)
 (refine sD F (Zft M (F.e rfl) rfl ?_);clear F M;intro b2 w M a F)
 (refine sD F (Zft M (F.e rfl) rfl ?_);clear F M;intro b3 w M a F)
 refine sD F (Zau (F.e rfl) ?_);clear F a;intro a F
 with_reducible refine ZaF (Zam (ZaB ?_))
 replace F := F.only [2, 3] rfl
 refine Zfk 33 F (by kernel_rfl) ?_
 intro w1 hE hok
 have M1 := M.later hE
 refine mK hok rfl rfl (fun a' w' F' E' => Zay (F'.e rfl) ⟨Ext.refl _ _, rfl⟩) (mK hok rfl rfl (fun a' w' F' E' => Zay (F'.e rfl) ⟨Ext.refl _ _, rfl⟩) ?_)
 (refine mK hok rfl rfl (fun a' w' F' E' => ZgW (F'.e rfl) ⟨Ext.refl _ _, rfl⟩) ?_)
 refine mK hok rfl rfl (fun a' w' F' E' => Zay (F'.e rfl) ⟨Ext.refl _ _, rfl⟩) (mK hok rfl rfl (fun a' w' F' E' => Zay (F'.e rfl) ⟨Ext.refl _ _, rfl⟩) ?_)
 (refine mK hok rfl rfl (fun a' w' F' E' => ZgW (F'.e rfl) ⟨Ext.refl _ _, rfl⟩) ?_)
 skip
 (refine mK hok rfl rfl (fun a' w' F' E' => Zbh (F'.e rfl) (F'.evs rfl) (Cal.mono (Zfl _ (n := 16) (m := 16) ⟨_, _, rfl, by omega, by simp, (ZaU ha.1.len), fun _ => ⟨b2, 0, dvC x, _, _, rfl, (M1.later E').heap (.there .here), a1⟩⟩ ⟨_, _, rfl, by omega, by simp, (ZaU hb.1.len), fun _ => ⟨b3, 0, dvC y, _, _, rfl, (M1.later E').heap .here, c1⟩⟩ ha.1.bd hb.1.bd) fun _ _ hh => ⟨hh.2, hh.1⟩)) ?_)
 refine mK hok rfl rfl (fun a' w' F' E' => Zay (F'.e rfl) ⟨Ext.refl _ _, rfl⟩) (mK hok rfl rfl (fun a' w' F' E' => Zay (F'.e rfl) ⟨Ext.refl _ _, rfl⟩) (mK hok rfl rfl (fun a' w' F' E' => Zbo (M1.later E') (F'.e rfl) (by repeat constructor) ‹_› ⟨Ext.refl _ _, rfl⟩) ?_))
 refine mK hok rfl rfl (fun a' w' F' E' => Zay (F'.e rfl) ⟨Ext.refl _ _, rfl⟩) (mK hok rfl rfl (fun a' w' F' E' => Zay (F'.e rfl) ⟨Ext.refl _ _, rfl⟩) (mK hok rfl rfl (fun a' w' F' E' => Zbo (M1.later E') (F'.e rfl) (by repeat constructor) ‹_› ⟨Ext.refl _ _, rfl⟩) ?_))
 (refine mK hok rfl rfl (fun a' w' F' E' => Zbh (F'.e rfl) (F'.evs rfl) (Cal.mono (Zlg x.dbits y.dbits _) fun _ _ hh => ⟨hh.2, hh.1⟩)) ?_)
 refine mK hok rfl rfl (fun a' w' F' E' => Zay (F'.e rfl) ⟨Ext.refl _ _, rfl⟩) (mK hok rfl rfl (fun a' w' F' E' => Zay (F'.e rfl) ⟨Ext.refl _ _, rfl⟩) ?_)
 (refine mK hok rfl rfl (fun a' w' F' E' => ZgW (F'.e rfl) ⟨Ext.refl _ _, rfl⟩) ?_)
 refine mK hok rfl rfl (fun a' w' F' E' => Zay (F'.e rfl) ⟨Ext.refl _ _, rfl⟩) (mK hok rfl rfl (fun a' w' F' E' => Zay (F'.e rfl) ⟨Ext.refl _ _, rfl⟩) ?_)
 (refine mK hok rfl rfl (fun a' w' F' E' => ZgW (F'.e rfl) ⟨Ext.refl _ _, rfl⟩) ?_)
 skip
 (refine mK hok rfl rfl (fun a' w' F' E' => Zbh (F'.e rfl) (F'.evs rfl) (Cal.mono (Zfl _ (n := 16) (m := 16) ⟨_, _, rfl, by omega, by simp, (ZaU ha.2.len), fun _ => ⟨b2, 17, dvC x, _, _, rfl, (M1.later E').heap (.there .here), a3⟩⟩ ⟨_, _, rfl, by omega, by simp, (ZaU hb.2.len), fun _ => ⟨b3, 17, dvC y, _, _, rfl, (M1.later E').heap .here, c3⟩⟩ ha.2.bd hb.2.bd) fun _ _ hh => ⟨hh.2, hh.1⟩)) ?_)
 refine mK hok rfl rfl (fun a' w' F' E' => Zay (F'.e rfl) ⟨Ext.refl _ _, rfl⟩) (mK hok rfl rfl (fun a' w' F' E' => Zay (F'.e rfl) ⟨Ext.refl _ _, rfl⟩) (mK hok rfl rfl (fun a' w' F' E' => Zbo (M1.later E') (F'.e rfl) (by repeat constructor) ‹_› ⟨Ext.refl _ _, rfl⟩) ?_))
 refine mK hok rfl rfl (fun a' w' F' E' => Zay (F'.e rfl) ⟨Ext.refl _ _, rfl⟩) (mK hok rfl rfl (fun a' w' F' E' => Zay (F'.e rfl) ⟨Ext.refl _ _, rfl⟩) (mK hok rfl rfl (fun a' w' F' E' => Zbo (M1.later E') (F'.e rfl) (by repeat constructor) ‹_› ⟨Ext.refl _ _, rfl⟩) ?_))
 (refine mK hok rfl rfl (fun a' w' F' E' => Zbh (F'.e rfl) (F'.evs rfl) (Cal.mono (Zlg x.sbits y.sbits _) fun _ _ hh => ⟨hh.2, hh.1⟩)) ?_)
 refine mK hok rfl rfl (fun a' w' F' E' => Zay (F'.e rfl) ⟨Ext.refl _ _, rfl⟩) (mK hok rfl rfl (fun a' w' F' E' => Zbo (M1.later E') (F'.e rfl) (by repeat constructor) ‹_› ⟨Ext.refl _ _, rfl⟩) ?_)
 refine mK hok rfl rfl (fun a' w' F' E' => Zay (F'.e rfl) ⟨Ext.refl _ _, rfl⟩) (mK hok rfl rfl (fun a' w' F' E' => Zbo (M1.later E') (F'.e rfl) (by repeat constructor) ‹_› ⟨Ext.refl _ _, rfl⟩) ?_)
 (refine mK hok rfl rfl (fun a' w' F' E' => Zbh (F'.e rfl) (F'.evs rfl) (Cal.mono (Zo1 x.rt y.rt _) fun _ _ hh => ⟨hh.2, hh.1⟩)) ?_)
 skip
 (refine Zgp rfl rfl ?_;clear F M;intro a w F hE2 hX hTT hDD hPP;have M := M1.later hE2;clear M1;clear hX;clear hE2;clear hok;clear hE;clear hTT;clear hDD;clear hPP;(try dsimp only at F))
 (refine sD F (Zch F M rfl rfl rfl rfl ?_);clear F M;intro b38 w M a F)
 (refine sD F (Zbh (F.e rfl) (F.evs rfl) (Cal.mono (or_c (b := b38) [cmpL x.dip y.dip, cmpV x.dbits y.dbits, cmpL x.sip y.sip, cmpV x.sbits y.sbits, cmpV x.rt y.rt] 5 rfl (by omega) _ (M.heap .here)) ?_));clear F;clear a;rintro _ w ⟨rfl, hE⟩ a F;replace M := M.later hE;clear hE)
 refine sD F (Zau (F.e rfl) ?_);clear F a;intro a F
 with_reducible refine ZaF (Zam (Zb6 ?_))
 exact Zb3 F rfl (.cons (.tmp (F.e rfl)) .nil) (⟨rfl, M.ext⟩)
theorem ZlC (p : List Int) (n : Int) (q : List Int) (m : Int) (hp : IsIP p) (hq : IsIP q) (W : World) : Cal Tryz.prog 186 [.agg (pfC p n).toArray, .agg (pfC q m).toArray].toArray W fun v w' => v = .int .i64 (orI (cmpL p q) (cmpI n m)) ∧ Ext [] W w' := by
 have e1 : seg (pfC p n) 0 16 = some (ipC p) := Zgf hp.len n
 have e2 : seg (pfC q m) 0 16 = some (ipC q) := Zgf hq.len m
 have e3 : nth (pfC p n) 16 = some (.int .i64 n) := Ziw hp.len n
 have e4 : nth (pfC q m) 16 = some (.int .i64 m) := Ziw hq.len m
 unfold orI cmpI
 refine Zao (n := 24) (S := []) Zal Zak Tryz.func186 rfl rfl rfl ?_
 by_cases h0 : cmpL p q = 0
 ·rw [if_pos h0]
  by_cases h1 : n < m
  ·rw [if_pos h1]
   refine gR 2 rfl (ZaA rfl rfl fun b2 => ZaA rfl rfl fun b3 => gR 7 rfl (Zah 1 rfl rfl (by with_reducible assumption) ?_))
   refine gR 1 rfl (Zah 0 rfl rfl (by with_reducible assumption) ?_)
   refine Zad rfl rfl (fun w M => ZdP _ _ ‹_› ‹_› _) ?_
   refine gR 9 rfl (Zav rfl (bneF (by omega)) (gR 6 rfl (Zai 1 rfl rfl (by with_reducible assumption) ?_)))
   refine gR 1 rfl (Zai 0 rfl rfl (by with_reducible assumption) ?_)
   exact gR 3 rfl (ZaE rfl (dqT (by omega)) (gR 7 rfl (Zab rfl rfl rfl fun w M => ⟨rfl, M.ext⟩)))
  ·rw [if_neg h1]
   by_cases h2 : m < n
   ·rw [if_pos h2]
    refine gR 2 rfl (ZaA rfl rfl fun b2 => ZaA rfl rfl fun b3 => gR 7 rfl (Zah 1 rfl rfl (by with_reducible assumption) ?_))
    refine gR 1 rfl (Zah 0 rfl rfl (by with_reducible assumption) ?_)
    refine Zad rfl rfl (fun w M => ZdP _ _ ‹_› ‹_› _) ?_
    refine gR 9 rfl (Zav rfl (bneF (by omega)) (gR 6 rfl (Zai 1 rfl rfl (by with_reducible assumption) ?_)))
    refine gR 1 rfl (Zai 0 rfl rfl (by with_reducible assumption) ?_)
    refine gR 3 rfl (Zav rfl (dqF (by omega)) (gR 6 rfl (Zai 1 rfl rfl (by with_reducible assumption) ?_)))
    refine gR 1 rfl (Zai 0 rfl rfl (by with_reducible assumption) ?_)
    exact gR 3 rfl (ZaE rfl (dqT (by omega)) (gR 7 rfl (Zab rfl rfl rfl fun w M => ⟨rfl, M.ext⟩)))
   ·rw [if_neg h2]
    refine gR 2 rfl (ZaA rfl rfl fun b2 => ZaA rfl rfl fun b3 => gR 7 rfl (Zah 1 rfl rfl (by with_reducible assumption) ?_))
    refine gR 1 rfl (Zah 0 rfl rfl (by with_reducible assumption) ?_)
    refine Zad rfl rfl (fun w M => ZdP _ _ ‹_› ‹_› _) ?_
    refine gR 9 rfl (Zav rfl (bneF (by omega)) (gR 6 rfl (Zai 1 rfl rfl (by with_reducible assumption) ?_)))
    refine gR 1 rfl (Zai 0 rfl rfl (by with_reducible assumption) ?_)
    refine gR 3 rfl (Zav rfl (dqF (by omega)) (gR 6 rfl (Zai 1 rfl rfl (by with_reducible assumption) ?_)))
    refine gR 1 rfl (Zai 0 rfl rfl (by with_reducible assumption) ?_)
    exact gR 3 rfl (Zav rfl (dqF (by omega)) (gR 8 rfl (Zab rfl rfl rfl fun w M => ⟨rfl, M.ext⟩)))
 ·rw [if_neg h0]
  refine gR 2 rfl (ZaA rfl rfl fun b2 => ZaA rfl rfl fun b3 => gR 7 rfl (Zah 1 rfl rfl (by with_reducible assumption) ?_))
  refine gR 1 rfl (Zah 0 rfl rfl (by with_reducible assumption) ?_)
  refine Zad rfl rfl (fun w M => ZdP _ _ ‹_› ‹_› _) ?_
  exact gR 9 rfl (ZaE rfl (bne_iff_ne.2 (by omega)) (gR 8 rfl (Zab rfl rfl rfl fun w M => ⟨rfl, M.ext⟩)))
theorem ZjV (a b c : Int) : orI (orI a b) c = orI a (orI b c) := by
 unfold orI
 repeat' split
 all_goals simp_all
theorem Zbt (x y : DstV) (ha : IsDv x) (hb : IsDv y) (W : World) : Cal Tryz.prog 92 [.agg (dvC x).toArray, .agg (dvC y).toArray].toArray W fun v w' => v = .int .i64 (cmpD x y) ∧ Ext [] W w' := by
 have a1 := Zb9 ha
 have a3 := ZcP ha
 have a5 := Zdz ha
 have c1 := Zb9 hb
 have c3 := ZcP hb
 have c5 := Zdz hb
 have hr : cmpD x y = orI (orI (cmpL x.dip y.dip) (cmpI x.dbits y.dbits)) (orI (orI (cmpL x.sip y.sip) (cmpI x.sbits y.sbits)) (cmpI x.rt y.rt)) := by
  rw [Zo5 ha hb, ZjV, ZjV]
 rw [hr]
 obtain ⟨p, hp⟩ : ∃ p, p = orI (cmpL x.dip y.dip) (cmpI x.dbits y.dbits) := ⟨_, rfl⟩
 obtain ⟨q, hq⟩ : ∃ q, q = orI (cmpL x.sip y.sip) (cmpI x.sbits y.sbits) := ⟨_, rfl⟩
 rw [← hp, ← hq]
 have k1 := ZlC x.dip x.dbits y.dip y.dbits ha.1 hb.1
 have k2 := ZlC x.sip x.sbits y.sip y.sbits ha.2 hb.2
 rw [← hp] at k1
 rw [← hq] at k2
 unfold orI cmpI
 refine Zao (n := 33) (S := []) Zal Zak Tryz.func92 rfl rfl rfl (gR 2 rfl (ZaA rfl rfl fun b2 => ZaA rfl rfl fun b3 => gR 7 rfl (Zah 1 rfl rfl (Zb9 ‹_›) ?_)))
 refine gR 1 rfl (Zah 0 rfl rfl (Zb9 ‹_›) ?_)
 refine Zad rfl rfl (fun w M => k1 _) ?_
 by_cases h0 : p = 0
 ·rw [if_pos h0]
  refine gR 9 rfl (Zav rfl (bneF (by omega)) (gR 6 rfl (Zah 1 rfl rfl (ZcP ‹_›) ?_)))
  refine gR 1 rfl (Zah 0 rfl rfl (ZcP ‹_›) ?_)
  refine Zad rfl rfl (fun w M => k2 _) ?_
  by_cases h1 : q = 0
  ·rw [if_pos h1]
   by_cases h2 : x.rt < y.rt
   ·rw [if_pos h2]
    refine gR 9 rfl (Zav rfl (bneF (by omega)) (gR 6 rfl (Zai 1 rfl rfl (Zdz ‹_›) ?_)))
    refine gR 1 rfl (Zai 0 rfl rfl (Zdz ‹_›) ?_)
    exact gR 3 rfl (ZaE rfl (dqT (by omega)) (gR 7 rfl (Zab rfl rfl rfl fun w M => ⟨rfl, M.ext⟩)))
   ·rw [if_neg h2]
    by_cases h3 : y.rt < x.rt
    ·rw [if_pos h3]
     refine gR 9 rfl (Zav rfl (bneF (by omega)) (gR 6 rfl (Zai 1 rfl rfl (Zdz ‹_›) ?_)))
     refine gR 1 rfl (Zai 0 rfl rfl (Zdz ‹_›) ?_)
     refine gR 3 rfl (Zav rfl (dqF (by omega)) (gR 6 rfl (Zai 1 rfl rfl (Zdz ‹_›) ?_)))
     refine gR 1 rfl (Zai 0 rfl rfl (Zdz ‹_›) ?_)
     exact gR 3 rfl (ZaE rfl (dqT (by omega)) (gR 7 rfl (Zab rfl rfl rfl fun w M => ⟨rfl, M.ext⟩)))
    ·rw [if_neg h3]
     refine gR 9 rfl (Zav rfl (bneF (by omega)) (gR 6 rfl (Zai 1 rfl rfl (Zdz ‹_›) ?_)))
     refine gR 1 rfl (Zai 0 rfl rfl (Zdz ‹_›) ?_)
     refine gR 3 rfl (Zav rfl (dqF (by omega)) (gR 6 rfl (Zai 1 rfl rfl (Zdz ‹_›) ?_)))
     refine gR 1 rfl (Zai 0 rfl rfl (Zdz ‹_›) ?_)
     exact gR 3 rfl (Zav rfl (dqF (by omega)) (gR 8 rfl (Zab rfl rfl rfl fun w M => ⟨rfl, M.ext⟩)))
  ·rw [if_neg h1]
   exact gR 9 rfl (ZaE rfl (bne_iff_ne.2 (by omega)) (gR 8 rfl (Zab rfl rfl rfl fun w M => ⟨rfl, M.ext⟩)))
 ·rw [if_neg h0]
  exact gR 9 rfl (ZaE rfl (bne_iff_ne.2 (by omega)) (gR 8 rfl (Zab rfl rfl rfl fun w M => ⟨rfl, M.ext⟩)))
end Go.Proofs.YtfhkmgcalcfibaaGreat
namespace Go.Proofs.YtfhkmgcalcfibaaGreat
open Go.RowKit
structure RouV where
 to : DstV
 nb : Int
 said : DisV
 til : Int
 deriving DecidableEq
def roC (o : RouV) : List Value := dvC o.to ++ ([.int .u64 o.nb] ++ (diC o.said ++ ([.int .i64 o.til])))
def IsRo (o : RouV) : Prop := IsDv o.to ∧ IsDi o.said
theorem Zbz {o : RouV} (h : IsRo o) : (roC o).length = 39 := by
 obtain ⟨⟨f_to_dip, f_to_dbits, f_to_sip, f_to_sbits, f_to_rt⟩, f_nb, ⟨f_said_seq, f_said_met⟩, f_til⟩ := o
 obtain ⟨x0_0, x0_1, x0_2, x0_3, x0_4, x0_5, x0_6, x0_7, x0_8, x0_9, x0_10, x0_11, x0_12, x0_13, x0_14, x0_15, e0⟩ := ZaC (show f_to_dip.length = 16 from (h.1.1).len)
 obtain ⟨x1_0, x1_1, x1_2, x1_3, x1_4, x1_5, x1_6, x1_7, x1_8, x1_9, x1_10, x1_11, x1_12, x1_13, x1_14, x1_15, e1⟩ := ZaC (show f_to_sip.length = 16 from (h.1.2).len)
 subst e0
 subst e1
 rfl
theorem ZfJ {o : RouV} (h : IsRo o) : seg (roC o) 0 39 = some (roC o) := ZfE (Zbz h)
theorem ZeL {o : RouV} (h : IsRo o) : seg (roC o) 0 35 = some (dvC o.to) := by
 obtain ⟨⟨f_to_dip, f_to_dbits, f_to_sip, f_to_sbits, f_to_rt⟩, f_nb, ⟨f_said_seq, f_said_met⟩, f_til⟩ := o
 obtain ⟨x0_0, x0_1, x0_2, x0_3, x0_4, x0_5, x0_6, x0_7, x0_8, x0_9, x0_10, x0_11, x0_12, x0_13, x0_14, x0_15, e0⟩ := ZaC (show f_to_dip.length = 16 from (h.1.1).len)
 obtain ⟨x1_0, x1_1, x1_2, x1_3, x1_4, x1_5, x1_6, x1_7, x1_8, x1_9, x1_10, x1_11, x1_12, x1_13, x1_14, x1_15, e1⟩ := ZaC (show f_to_sip.length = 16 from (h.1.2).len)
 subst e0
 subst e1
 rfl
theorem ZfI {o : RouV} (h : IsRo o) : nth (roC o) 34 = some (.int .u64 o.to.rt) := by
 obtain ⟨⟨f_to_dip, f_to_dbits, f_to_sip, f_to_sbits, f_to_rt⟩, f_nb, ⟨f_said_seq, f_said_met⟩, f_til⟩ := o
 obtain ⟨x0_0, x0_1, x0_2, x0_3, x0_4, x0_5, x0_6, x0_7, x0_8, x0_9, x0_10, x0_11, x0_12, x0_13, x0_14, x0_15, e0⟩ := ZaC (show f_to_dip.length = 16 from (h.1.1).len)
 obtain ⟨x1_0, x1_1, x1_2, x1_3, x1_4, x1_5, x1_6, x1_7, x1_8, x1_9, x1_10, x1_11, x1_12, x1_13, x1_14, x1_15, e1⟩ := ZaC (show f_to_sip.length = 16 from (h.1.2).len)
 subst e0
 subst e1
 rfl
theorem ZdV {o : RouV} (h : IsRo o) : nth (roC o) 35 = some (.int .u64 o.nb) := by
 obtain ⟨⟨f_to_dip, f_to_dbits, f_to_sip, f_to_sbits, f_to_rt⟩, f_nb, ⟨f_said_seq, f_said_met⟩, f_til⟩ := o
 obtain ⟨x0_0, x0_1, x0_2, x0_3, x0_4, x0_5, x0_6, x0_7, x0_8, x0_9, x0_10, x0_11, x0_12, x0_13, x0_14, x0_15, e0⟩ := ZaC (show f_to_dip.length = 16 from (h.1.1).len)
 obtain ⟨x1_0, x1_1, x1_2, x1_3, x1_4, x1_5, x1_6, x1_7, x1_8, x1_9, x1_10, x1_11, x1_12, x1_13, x1_14, x1_15, e1⟩ := ZaC (show f_to_sip.length = 16 from (h.1.2).len)
 subst e0
 subst e1
 rfl
theorem ro_said {o : RouV} (h : IsRo o) : seg (roC o) 36 2 = some (diC o.said) := by
 obtain ⟨⟨f_to_dip, f_to_dbits, f_to_sip, f_to_sbits, f_to_rt⟩, f_nb, ⟨f_said_seq, f_said_met⟩, f_til⟩ := o
 obtain ⟨x0_0, x0_1, x0_2, x0_3, x0_4, x0_5, x0_6, x0_7, x0_8, x0_9, x0_10, x0_11, x0_12, x0_13, x0_14, x0_15, e0⟩ := ZaC (show f_to_dip.length = 16 from (h.1.1).len)
 obtain ⟨x1_0, x1_1, x1_2, x1_3, x1_4, x1_5, x1_6, x1_7, x1_8, x1_9, x1_10, x1_11, x1_12, x1_13, x1_14, x1_15, e1⟩ := ZaC (show f_to_sip.length = 16 from (h.1.2).len)
 subst e0
 subst e1
 rfl
theorem ZkF {o : RouV} (h : IsRo o) : nth (roC o) 37 = some (.int .i64 o.said.met) := by
 obtain ⟨⟨f_to_dip, f_to_dbits, f_to_sip, f_to_sbits, f_to_rt⟩, f_nb, ⟨f_said_seq, f_said_met⟩, f_til⟩ := o
 obtain ⟨x0_0, x0_1, x0_2, x0_3, x0_4, x0_5, x0_6, x0_7, x0_8, x0_9, x0_10, x0_11, x0_12, x0_13, x0_14, x0_15, e0⟩ := ZaC (show f_to_dip.length = 16 from (h.1.1).len)
 obtain ⟨x1_0, x1_1, x1_2, x1_3, x1_4, x1_5, x1_6, x1_7, x1_8, x1_9, x1_10, x1_11, x1_12, x1_13, x1_14, x1_15, e1⟩ := ZaC (show f_to_sip.length = 16 from (h.1.2).len)
 subst e0
 subst e1
 rfl
theorem Zrb {o : RouV} (h : IsRo o) : nth (roC o) 38 = some (.int .i64 o.til) := by
 obtain ⟨⟨f_to_dip, f_to_dbits, f_to_sip, f_to_sbits, f_to_rt⟩, f_nb, ⟨f_said_seq, f_said_met⟩, f_til⟩ := o
 obtain ⟨x0_0, x0_1, x0_2, x0_3, x0_4, x0_5, x0_6, x0_7, x0_8, x0_9, x0_10, x0_11, x0_12, x0_13, x0_14, x0_15, e0⟩ := ZaC (show f_to_dip.length = 16 from (h.1.1).len)
 obtain ⟨x1_0, x1_1, x1_2, x1_3, x1_4, x1_5, x1_6, x1_7, x1_8, x1_9, x1_10, x1_11, x1_12, x1_13, x1_14, x1_15, e1⟩ := ZaC (show f_to_sip.length = 16 from (h.1.2).len)
 subst e0
 subst e1
 rfl
theorem Zdq (o : RouV) : (roC o).all (·.oneCell') = true := by
 simp [pfC, ipC, roC, dvC, diC, Value.oneCell']
def roZ : List Value := [.int .u8 0, .int .u8 0, .int .u8 0, .int .u8 0, .int .u8 0, .int .u8 0, .int .u8 0, .int .u8 0, .int .u8 0, .int .u8 0, .int .u8 0, .int .u8 0, .int .u8 0, .int .u8 0, .int .u8 0, .int .u8 0, .int .i64 0, .int .u8 0, .int .u8 0, .int .u8 0, .int .u8 0, .int .u8 0, .int .u8 0, .int .u8 0, .int .u8 0, .int .u8 0, .int .u8 0, .int .u8 0, .int .u8 0, .int .u8 0, .int .u8 0, .int .u8 0, .int .u8 0, .int .i64 0, .int .u64 0, .int .u64 0, .int .u16 0, .int .i64 0, .int .i64 0]
theorem ZpL {o : RouV} (h : IsRo o) : Za2 [(0, 35), (35, 1), (36, 2), (38, 1)] roZ [(0, dvC o.to), (1, [.int .u64 o.nb]), (2, diC o.said), (3, [.int .i64 o.til])] = some (roC o) := by
 obtain ⟨⟨f_to_dip, f_to_dbits, f_to_sip, f_to_sbits, f_to_rt⟩, f_nb, ⟨f_said_seq, f_said_met⟩, f_til⟩ := o
 obtain ⟨x0_0, x0_1, x0_2, x0_3, x0_4, x0_5, x0_6, x0_7, x0_8, x0_9, x0_10, x0_11, x0_12, x0_13, x0_14, x0_15, e0⟩ := ZaC (show f_to_dip.length = 16 from (h.1.1).len)
 obtain ⟨x1_0, x1_1, x1_2, x1_3, x1_4, x1_5, x1_6, x1_7, x1_8, x1_9, x1_10, x1_11, x1_12, x1_13, x1_14, x1_15, e1⟩ := ZaC (show f_to_sip.length = 16 from (h.1.2).len)
 subst e0
 subst e1
 rfl
theorem ZdE {o : RouV} (h : IsRo o) : Za2 (ZbX 1 39) (ZbJ roZ (1 * 39)) [(0, roC o)] = some (roC o) := by
 obtain ⟨⟨f_to_dip, f_to_dbits, f_to_sip, f_to_sbits, f_to_rt⟩, f_nb, ⟨f_said_seq, f_said_met⟩, f_til⟩ := o
 obtain ⟨x0_0, x0_1, x0_2, x0_3, x0_4, x0_5, x0_6, x0_7, x0_8, x0_9, x0_10, x0_11, x0_12, x0_13, x0_14, x0_15, e0⟩ := ZaC (show f_to_dip.length = 16 from (h.1.1).len)
 obtain ⟨x1_0, x1_1, x1_2, x1_3, x1_4, x1_5, x1_6, x1_7, x1_8, x1_9, x1_10, x1_11, x1_12, x1_13, x1_14, x1_15, e1⟩ := ZaC (show f_to_sip.length = 16 from (h.1.2).len)
 subst e0
 subst e1
 rfl
abbrev rosC (l : List RouV) : List Value := encL roC l
theorem Zeg {l : List RouV} (h : ∀ x ∈ l, IsRo x) : ∀ x ∈ l, (roC x).length = 39 := fun x hx => Zbz (h x hx)
theorem ZrV {l : List RouV} : (rosC l).all (·.oneCell') = true := Zeo fun x _ => Zdq x
structure SrcV where
 to : DstV
 bst : DisV
 til : Int
 deriving DecidableEq
def srC (o : SrcV) : List Value := dvC o.to ++ (diC o.bst ++ ([.int .i64 o.til]))
def IsSr (o : SrcV) : Prop := IsDv o.to ∧ IsDi o.bst
theorem ZcK {o : SrcV} (h : IsSr o) : (srC o).length = 38 := by
 obtain ⟨⟨f_to_dip, f_to_dbits, f_to_sip, f_to_sbits, f_to_rt⟩, ⟨f_bst_seq, f_bst_met⟩, f_til⟩ := o
 obtain ⟨x0_0, x0_1, x0_2, x0_3, x0_4, x0_5, x0_6, x0_7, x0_8, x0_9, x0_10, x0_11, x0_12, x0_13, x0_14, x0_15, e0⟩ := ZaC (show f_to_dip.length = 16 from (h.1.1).len)
 obtain ⟨x1_0, x1_1, x1_2, x1_3, x1_4, x1_5, x1_6, x1_7, x1_8, x1_9, x1_10, x1_11, x1_12, x1_13, x1_14, x1_15, e1⟩ := ZaC (show f_to_sip.length = 16 from (h.1.2).len)
 subst e0
 subst e1
 rfl
theorem ZjG {o : SrcV} (h : IsSr o) : seg (srC o) 0 38 = some (srC o) := ZfE (ZcK h)
theorem ZjF {o : SrcV} (h : IsSr o) : seg (srC o) 0 35 = some (dvC o.to) := by
 obtain ⟨⟨f_to_dip, f_to_dbits, f_to_sip, f_to_sbits, f_to_rt⟩, ⟨f_bst_seq, f_bst_met⟩, f_til⟩ := o
 obtain ⟨x0_0, x0_1, x0_2, x0_3, x0_4, x0_5, x0_6, x0_7, x0_8, x0_9, x0_10, x0_11, x0_12, x0_13, x0_14, x0_15, e0⟩ := ZaC (show f_to_dip.length = 16 from (h.1.1).len)
 obtain ⟨x1_0, x1_1, x1_2, x1_3, x1_4, x1_5, x1_6, x1_7, x1_8, x1_9, x1_10, x1_11, x1_12, x1_13, x1_14, x1_15, e1⟩ := ZaC (show f_to_sip.length = 16 from (h.1.2).len)
 subst e0
 subst e1
 rfl
theorem Znp {o : SrcV} (h : IsSr o) : seg (srC o) 35 2 = some (diC o.bst) := by
 obtain ⟨⟨f_to_dip, f_to_dbits, f_to_sip, f_to_sbits, f_to_rt⟩, ⟨f_bst_seq, f_bst_met⟩, f_til⟩ := o
 obtain ⟨x0_0, x0_1, x0_2, x0_3, x0_4, x0_5, x0_6, x0_7, x0_8, x0_9, x0_10, x0_11, x0_12, x0_13, x0_14, x0_15, e0⟩ := ZaC (show f_to_dip.length = 16 from (h.1.1).len)
 obtain ⟨x1_0, x1_1, x1_2, x1_3, x1_4, x1_5, x1_6, x1_7, x1_8, x1_9, x1_10, x1_11, x1_12, x1_13, x1_14, x1_15, e1⟩ := ZaC (show f_to_sip.length = 16 from (h.1.2).len)
 subst e0
 subst e1
 rfl
theorem Zie {o : SrcV} (h : IsSr o) : nth (srC o) 36 = some (.int .i64 o.bst.met) := by
 obtain ⟨⟨f_to_dip, f_to_dbits, f_to_sip, f_to_sbits, f_to_rt⟩, ⟨f_bst_seq, f_bst_met⟩, f_til⟩ := o
 obtain ⟨x0_0, x0_1, x0_2, x0_3, x0_4, x0_5, x0_6, x0_7, x0_8, x0_9, x0_10, x0_11, x0_12, x0_13, x0_14, x0_15, e0⟩ := ZaC (show f_to_dip.length = 16 from (h.1.1).len)
 obtain ⟨x1_0, x1_1, x1_2, x1_3, x1_4, x1_5, x1_6, x1_7, x1_8, x1_9, x1_10, x1_11, x1_12, x1_13, x1_14, x1_15, e1⟩ := ZaC (show f_to_sip.length = 16 from (h.1.2).len)
 subst e0
 subst e1
 rfl
theorem Zno {o : SrcV} (h : IsSr o) : nth (srC o) 37 = some (.int .i64 o.til) := by
 obtain ⟨⟨f_to_dip, f_to_dbits, f_to_sip, f_to_sbits, f_to_rt⟩, ⟨f_bst_seq, f_bst_met⟩, f_til⟩ := o
 obtain ⟨x0_0, x0_1, x0_2, x0_3, x0_4, x0_5, x0_6, x0_7, x0_8, x0_9, x0_10, x0_11, x0_12, x0_13, x0_14, x0_15, e0⟩ := ZaC (show f_to_dip.length = 16 from (h.1.1).len)
 obtain ⟨x1_0, x1_1, x1_2, x1_3, x1_4, x1_5, x1_6, x1_7, x1_8, x1_9, x1_10, x1_11, x1_12, x1_13, x1_14, x1_15, e1⟩ := ZaC (show f_to_sip.length = 16 from (h.1.2).len)
 subst e0
 subst e1
 rfl
theorem Zfh (o : SrcV) : (srC o).all (·.oneCell') = true := by
 simp [pfC, ipC, srC, dvC, diC, Value.oneCell']
def srZ : List Value := [.int .u8 0, .int .u8 0, .int .u8 0, .int .u8 0, .int .u8 0, .int .u8 0, .int .u8 0, .int .u8 0, .int .u8 0, .int .u8 0, .int .u8 0, .int .u8 0, .int .u8 0, .int .u8 0, .int .u8 0, .int .u8 0, .int .i64 0, .int .u8 0, .int .u8 0, .int .u8 0, .int .u8 0, .int .u8 0, .int .u8 0, .int .u8 0, .int .u8 0, .int .u8 0, .int .u8 0, .int .u8 0, .int .u8 0, .int .u8 0, .int .u8 0, .int .u8 0, .int .u8 0, .int .i64 0, .int .u64 0, .int .u16 0, .int .i64 0, .int .i64 0]
theorem ZpB {o : SrcV} (h : IsSr o) : Za2 [(0, 35), (35, 2), (37, 1)] srZ [(0, dvC o.to), (1, diC o.bst), (2, [.int .i64 o.til])] = some (srC o) := by
 obtain ⟨⟨f_to_dip, f_to_dbits, f_to_sip, f_to_sbits, f_to_rt⟩, ⟨f_bst_seq, f_bst_met⟩, f_til⟩ := o
 obtain ⟨x0_0, x0_1, x0_2, x0_3, x0_4, x0_5, x0_6, x0_7, x0_8, x0_9, x0_10, x0_11, x0_12, x0_13, x0_14, x0_15, e0⟩ := ZaC (show f_to_dip.length = 16 from (h.1.1).len)
 obtain ⟨x1_0, x1_1, x1_2, x1_3, x1_4, x1_5, x1_6, x1_7, x1_8, x1_9, x1_10, x1_11, x1_12, x1_13, x1_14, x1_15, e1⟩ := ZaC (show f_to_sip.length = 16 from (h.1.2).len)
 subst e0
 subst e1
 rfl
theorem ZeD {o : SrcV} (h : IsSr o) : Za2 (ZbX 1 38) (ZbJ srZ (1 * 38)) [(0, srC o)] = some (srC o) := by
 obtain ⟨⟨f_to_dip, f_to_dbits, f_to_sip, f_to_sbits, f_to_rt⟩, ⟨f_bst_seq, f_bst_met⟩, f_til⟩ := o
 obtain ⟨x0_0, x0_1, x0_2, x0_3, x0_4, x0_5, x0_6, x0_7, x0_8, x0_9, x0_10, x0_11, x0_12, x0_13, x0_14, x0_15, e0⟩ := ZaC (show f_to_dip.length = 16 from (h.1.1).len)
 obtain ⟨x1_0, x1_1, x1_2, x1_3, x1_4, x1_5, x1_6, x1_7, x1_8, x1_9, x1_10, x1_11, x1_12, x1_13, x1_14, x1_15, e1⟩ := ZaC (show f_to_sip.length = 16 from (h.1.2).len)
 subst e0
 subst e1
 rfl
abbrev srsC (l : List SrcV) : List Value := encL srC l
theorem Zgd {l : List SrcV} (h : ∀ x ∈ l, IsSr x) : ∀ x ∈ l, (srC x).length = 38 := fun x hx => ZcK (h x hx)
theorem ZrL {l : List SrcV} : (srsC l).all (·.oneCell') = true := Zeo fun x _ => Zfh x
structure OptV where
 nb : Int
 cost : Int
 deriving DecidableEq
def opC (o : OptV) : List Value := [.int .u64 o.nb, .int .i64 o.cost]
abbrev opsC (l : List OptV) : List Value := encL opC l
section
variable {α : Type}
def vld1 (e1 : α → Bool) (cm : α → α → Int) (l : List α) (i : Nat) : Bool := match l[i]? with
 | none => true
 | some a => e1 a && (decide (i = 0) || match l[i - 1]? with
  | none => true
  | some b => decide (cm b a < 0))
def vldL (n : Nat) (e1 : α → Bool) (cm : α → α → Int) (l : List α) : Bool := decide (l.length ≤ n) && (List.range l.length).all (vld1 e1 cm l)
variable {n : Nat} {e1 : α → Bool} {cm : α → α → Int} {l : List α}
theorem Zs1 {i : Nat} (h : i < l.length) (h0 : i = 0) : vld1 e1 cm l i = e1 l[i] := by
 subst h0
 simp [vld1, List.getElem?_eq_getElem h]
theorem Zng {i : Nat} (h : i < l.length) (h0 : 0 < i) : vld1 e1 cm l i = (e1 l[i] && decide (cm (l[i - 1]'(by omega)) l[i] < 0)) := by
 have : ¬ i = 0 := by omega
 simp [vld1, List.getElem?_eq_getElem h, List.getElem?_eq_getElem (show i - 1 < l.length by omega), this]
theorem Zq8 {i : Nat} (h : i < l.length) (hv : e1 l[i] = false) : vld1 e1 cm l i = false := by
 simp [vld1, List.getElem?_eq_getElem h, hv]
abbrev AscC (cm : α → α → Int) (l : List α) : Prop := l.Pairwise fun a b => cm a b < 0
theorem ZfA (tr : ∀ a b c, cm a b < 0 → cm b c < 0 → cm a c < 0) : vldL n e1 cm l = true ↔ l.length ≤ n ∧ (∀ a ∈ l, e1 a = true) ∧ AscC cm l := by
 unfold vldL
 rw [Bool.and_eq_true, decide_eq_true_eq, List.all_eq_true]
 constructor
 ·rintro ⟨h1, h2⟩
  have hat : ∀ i (hi : i < l.length), e1 l[i] = true ∧ (0 < i → ∀ h : i - 1 < l.length, cm l[i - 1] l[i] < 0) := by
   intro i hi
   have := h2 i (List.mem_range.2 hi)
   simp only [vld1, List.getElem?_eq_getElem hi, Bool.and_eq_true, Bool.or_eq_true, decide_eq_true_eq] at this
   refine ⟨this.1, fun h0 h => ?_⟩
   rcases this.2 with h3 | h3
   ·omega
   ·rw [List.getElem?_eq_getElem h] at h3
    simpa using h3
  refine ⟨h1, fun a ha => ?_, ?_⟩
  ·obtain ⟨i, hi, rfl⟩ := List.mem_iff_getElem.1 ha
   exact (hat i hi).1
  ·refine List.pairwise_iff_getElem.2 ?_
   intro i j hi hj hij
   have key : ∀ n, ∀ (hn : i + 1 + n < l.length), cm l[i] (l[i + 1 + n]'hn) < 0 := by
    intro n
    induction n with
    | zero => intro hn;exact (hat (i + 1) hn).2 (by omega) (by omega)
    | succ n ih =>
     intro hn
     have h3 := (hat (i + 1 + (n + 1)) hn).2 (by omega) (by omega)
     exact tr _ _ _ (ih (by omega)) h3
   have := key (j - i - 1) (by omega)
   simpa [show i + 1 + (j - i - 1) = j by omega] using this
 ·rintro ⟨h1, h2, h3⟩
  refine ⟨h1, fun i hi => ?_⟩
  have hi' := List.mem_range.1 hi
  replace h3 := List.pairwise_iff_getElem.1 h3
  have h4 := h2 l[i] (List.getElem_mem hi')
  simp only [vld1, List.getElem?_eq_getElem hi', h4, Bool.true_and, Bool.or_eq_true, decide_eq_true_eq]
  by_cases h0 : i = 0
  ·exact .inl h0
  ·right
   rw [List.getElem?_eq_getElem (show i - 1 < l.length by omega)]
   simpa using h3 (i - 1) i (by omega) hi' (by omega)
end
theorem Zo4 {a b : Int} : cmpI a b < 0 ↔ a < b := by
 unfold cmpI
 repeat' split
 all_goals omega
def keyR (r : RouV) : List Int := keyD r.to ++ [r.nb]
def cmpR (a b : RouV) : Int := cmpL (keyR a) (keyR b)
theorem ZlY {d : DstV} (h : IsDv d) : (keyD d).length = 35 := by
 simp [keyD, h.1.len, h.2.len]
theorem Zo2 {a b : RouV} (ha : IsDv a.to) (hb : IsDv b.to) : cmpR a b = orI (cmpD a.to b.to) (cmpI a.nb b.nb) := by
 unfold cmpR keyR
 rw [Zg2 _ _ _ _ (by rw [ZlY ha, ZlY hb]), Zd9]
 have : cmpL ([] : List Int) [] = 0 := ZhI _
 rw [this]
 show orI (cmpD a.to b.to) (orI (cmpI a.nb b.nb) 0) = _
 congr 1
 unfold orI
 split <;> simp_all
theorem ZmW {a b c : RouV} (h : cmpR a b < 0) (k : cmpR b c < 0) : cmpR a c < 0 := ZdA h k
def finD (d : DisV) : Bool := Zdp d.met && !decide (d.met = inf)
def rou1 (r : RouV) : Bool := Zcs r.to && !decide (r.nb = 0) && finD r.said && Za5 r.til
def Zdh (l : List RouV) : Bool := vldL 512 rou1 cmpR l
theorem Zkv {l : List RouV} : Zdh l = true ↔ l.length ≤ 512 ∧ (∀ a ∈ l, rou1 a = true) ∧ AscC cmpR l := ZfA (fun _ _ _ h k => ZmW h k)
structure PlR (ys : List RouV) (x : RouV) (i : Nat) : Prop where
 le : i ≤ ys.length
 lo : ∀ j (hj : j < i) (hl : j < ys.length), cmpR ys[j] x < 0
 hi : ∀ j (hj : i ≤ j) (hl : j < ys.length), 0 ≤ cmpR ys[j] x
section
variable {ys : List RouV} {x : RouV} {i : Nat} (hP : PlR ys x i)
include hP
end
section
variable {α : Type} {n : Nat} {e1 : α → Bool} {cm : α → α → Int} {l : List α} {i : Nat}
theorem Zpq {b : Bool} (h : i < l.length) (hv : vld1 e1 cm l i = false) (hb : vldL n e1 cm l = b) : b = false := by
 rw [← hb]
 unfold vldL
 rw [List.all_eq_false.2 ⟨i, List.mem_range.2 h, by rw [hv];simp⟩, Bool.and_false]
theorem vl_F {x : α} {b : Bool} {W w : World} (hb : vldL n e1 cm l = b) (h : i < l.length) (hx : x = l[i]) (hv : e1 x = false) (E : Ext [] W w) : Value.bool false = .bool b ∧ Ext [] W w := ⟨by rw [Zpq h (Zq8 h (by rw [← hx];exact hv)) hb], E⟩
theorem vl_S {x y : α} {b : Bool} {W w : World} (hb : vldL n e1 cm l = b) (h : i < l.length) (h0 : 0 < i) (hx : x = l[i]) (hy : y = l[i - 1]'(by omega)) (hv : ¬ cm y x < 0) (E : Ext [] W w) : Value.bool false = .bool b ∧ Ext [] W w := ⟨by rw [Zpq h (by rw [Zng h h0, ← hx, ← hy, dqF hv, Bool.and_false]) hb], E⟩
theorem vl_N {x : α} (h : i < l.length) (hx : x = l[i]) (ha : ∀ j, j < i → vld1 e1 cm l j = true) (h1 : e1 x = true) (h2 : ∀ h0 : 0 < i, cm (l[i - 1]'(by omega)) x < 0) : ∀ j, j < i + 1 → vld1 e1 cm l j = true := fun j hj => by
 rcases Nat.lt_or_ge j i with h3 | h3
 ·exact ha j h3
 ·obtain rfl : j = i := by omega
  rcases Nat.eq_zero_or_pos j with h0 | h0
  ·rw [Zs1 h h0, ← hx];exact h1
  ·rw [Zng h h0, ← hx, h1, dqT (h2 h0)];rfl
theorem vl_L {b : Bool} {W w : World} (hb : vldL n e1 cm l = b) (h : n < l.length) (E : Ext [] W w) : Value.bool false = .bool b ∧ Ext [] W w := by
 refine ⟨?_, E⟩
 rw [← hb]
 unfold vldL
 rw [dqF (by omega), Bool.false_and]
theorem vl_T {b : Bool} {W w : World} (hb : vldL n e1 cm l = b) (h : l.length ≤ n) (ha : ∀ j, j < l.length → vld1 e1 cm l j = true) (E : Ext [] W w) : Value.bool true = .bool b ∧ Ext [] W w := by
 refine ⟨?_, E⟩
 rw [← hb]
 unfold vldL
 rw [dqT h, Bool.true_and, List.all_eq_true.2 fun j hj => ha j (List.mem_range.1 hj)]
end
end Go.Proofs.YtfhkmgcalcfibaaGreat
namespace Go.Proofs.YtfhkmgcalcfibaaGreat
def ava1 (a : AdvV) : Bool := Zcs a.to && Zdp a.own.met
def ZhK (a b : AdvV) : Int := cmpD a.to b.to
theorem Zhc (l : List AdvV) : Zee l = vldL 520 ava1 ZhK l := by
 have h : adv1 l = vld1 ava1 ZhK l := by
  funext i
  unfold adv1 vld1 ava1 ZhK
  cases l[i]? with
  | none => rfl
  | some a => cases l[i - 1]? <;> rfl
 unfold Zee vldL
 rw [h]
end Go.Proofs.YtfhkmgcalcfibaaGreat
namespace Go.Proofs.YtfhkmgcalcfibaaGreat
open Go.RowKit
attribute [local irreducible] OpTo wpListIn Code.wpIn MW Cal
theorem SlAt.one {W : World} {sz n : Nat} {v : Value} {xs : List Value} (h : SlAt W sz v n xs) : v.oneCell' = true := by
 obtain ⟨p, cap, rfl, _⟩ := h
 rfl
theorem Zid (l : List AdvV) (hx : ∀ x ∈ l, IsAv x) (v : Value) (W : World) (hS : SlAt W 37 v l.length (avsC l)) :
  Cal Tryz.prog 195 [v].toArray W fun r w' => r = .bool (Zee l) ∧ Ext [] W w' := by
 obtain ⟨q, cap, rfl, _⟩ := id hS
 have hm := hS.memB [] (by simp)
 rw [Zhc]
 generalize hV : vldL 520 ava1 ZhK l = b0
 refine Zao (n := 41) (S := []) Zal Zak Tryz.func195 rfl rfl rfl ?_
 by_cases c0 : 520 < l.length
 ·refine gR 13 rfl ?_
  exact ZaE rfl (dqT (by omega)) (gR 7 rfl (Zab rfl rfl rfl fun w M => vl_L hV c0 M.ext))
 refine gR 13 rfl (Zav rfl (dqF (by omega)) (gR 11 rfl (Za1 (ι := Nat) ⟨fun (i : Nat) => l.length - i, fun (i : Nat) => i ≤ l.length ∧ (∀ j, j < i → vld1 ava1 ZhK l j = true), fun (i : Nat) => [(10, .int .i64 i), (9, .int .i64 l.length), (8, .slice q l.length cap), (0, .slice q l.length cap)], fun (i : Nat) => []⟩ 0 ⟨by omega, by omega⟩ (fun a F => F.only [10, 9, 8, 0] rfl) (sX 17179869183 rfl) ?_)))
 rintro i ⟨hi_i, hv⟩
 by_cases hlt_i : i < l.length
 ·obtain ⟨b, o, cs, t', fz, rfl, hb, hs⟩ := hm (by omega)
  obtain ⟨x, hx0⟩ : ∃ x, x = l[i] := ⟨_, rfl⟩
  have hxm : x ∈ l := by rw [hx0];exact List.getElem_mem hlt_i
  have hxi : IsAv x := hx _ hxm
  have f1 : seg cs (o + (i : Int).toNat * 37) 37 = some (avC x) := by rw [hx0];exact Za0 (ZgA hx) hs hlt_i (by omega)
  replace hx0 := hx0.symm
  have xd : IsDv x.to := hxi.1
  refine gR 6 rfl (ZaE rfl (dqT (by omega)) (gR 7 rfl (Zbk rfl rfl (by omega) (by omega) (ZbF rfl ‹_› (by with_reducible assumption) ?_))))
  refine Zat fun b4 => gR 1 rfl (Zas 0 rfl rfl (Zdt ‹_›) (Ze0 _) rfl (Zag (by rw [Zdt ‹_›];first | rfl | rw [Zdt ‹_›])) rfl ?_)
  refine gR 6 rfl (Zah 0 rfl rfl (Zh0 ‹_›) ?_)
  refine Zad rfl rfl (fun w M => ZcI _ ‹_› _) ?_
  refine gR 2 rfl (Zan 19 rfl (fun h1 => ?_) (fun h1 => ?_))
  ·replace h1 := Zaa h1
   exact gR 18 rfl (ZaM (gR 2 rfl (Zab rfl rfl rfl fun w M => vl_F hV hlt_i hx0.symm (by (unfold ava1;simp [*];done)) M.ext)))
  replace h1 := Zac h1
  refine gR 2 rfl (Zai 0 rfl rfl (Zm3 ‹_›) ?_)
  refine Zad rfl rfl (fun w M => ZlR _ _) (gR 4 rfl (g_if rfl (fun h2 => ?_) (fun h2 => ?_)))
  ·replace h2 := Zaa h2
   exact gR 9 rfl (ZaM (gR 2 rfl (Zab rfl rfl rfl fun w M => vl_F hV hlt_i hx0.symm (by (unfold ava1;simp [*];done)) M.ext)))
  replace h2 := Zac h2
  refine gR 2 rfl ?_
  by_cases hi0 : 0 < i
  ·obtain ⟨y, hy0⟩ : ∃ y, y = l[i - 1]'(by omega) := ⟨_, rfl⟩
   have yI : IsAv y := by rw [hy0];exact hx _ (List.getElem_mem _)
   have f2 : seg cs (o + ((i : Int) - 1).toNat * 37) 37 = some (avC y) := by rw [hy0];exact Za0 (ZgA hx) hs (show i - 1 < l.length by omega) (by omega)
   replace hy0 := hy0.symm
   have yd : IsDv y.to := yI.1
   refine gR 1 rfl (ZaG 14 41 rfl (by kernel_rfl) (fR 3 rfl (ZaX 28 rfl (dqT (by omega)) (fR 2 rfl (ZdR rfl rfl (Zax (by omega) (by omega)) (Zbb rfl rfl (by omega) (by omega) (fR 1 rfl (Zb1 rfl ‹_› (ZbP f2 (Zh0 ‹_›) (by omega)) ?_))))))))
   refine fR 1 rfl (ZaN 0 rfl rfl (Zh0 ‹_›) ?_)
   refine ZaH rfl rfl (fun w M => ZcX _ _ ‹_› ‹_› _) ?_
   refine fR 2 rfl (Zap rfl rfl (gR 2 rfl (g_if rfl (fun h1 => ?_) (fun h1 => ?_))))
   ·replace h1 := dqU h1
    exact gR 8 rfl (ZaM (gR 2 rfl (Zab rfl rfl rfl fun w M => vl_S hV hlt_i hi0 hx0.symm hy0.symm (by unfold ZhK;omega) M.ext)))
   ·replace h1 := dqV h1
    refine gR 4 rfl (ZaK rfl rfl (Zax (by omega) (by omega)) (gR 2 rfl ?_))
    exact Zar (i + 1) ⟨by omega, vl_N hlt_i hx0.symm hv (by (unfold ava1;simp [*];done)) fun _ => by rw [hy0];exact (by unfold ZhK;omega)⟩ (by dsimp only;omega) (fun a F => F.only [10, 9, 8, 0] rfl) (sX 0 rfl)
  ·refine gR 1 rfl ?_
   exact ZaG 14 41 rfl (by kernel_rfl) (fR 3 rfl (ZaX 28 rfl (dqF (by omega)) (fR 11 rfl (Zap rfl rfl (gR 7 rfl (ZaK rfl rfl (Zax (by omega) (by omega)) (gR 2 rfl (Zar (i + 1) ⟨by omega, vl_N hlt_i hx0.symm hv (by (unfold ava1;simp [*];done)) fun h => absurd h hi0⟩ (by dsimp only;omega) (fun a F => F.only [10, 9, 8, 0] rfl) (sX 0 rfl)))))))))
 ·have hil : i = l.length := by omega
  rw [hil] at hv
  exact gR 6 rfl (Zav rfl (dqF (by omega)) (gR 2 rfl (ZaZ (gR 8 rfl (Zab rfl rfl rfl fun w M => vl_T hV (by omega) hv M.ext)))))
theorem Zig (l : List AdvV) (hx : ∀ x ∈ l, IsAv x) (v : Value) (W : World) (hS : SlAt W 37 v l.length (avsC l)) :
  Cal Tryz.prog 201 [v].toArray W fun r w' => r = .bool (Zee l) ∧ Ext [] W w' := by
 obtain ⟨q, cap, rfl, _⟩ := id hS
 have hm := hS.memB [] (by simp)
 rw [Zhc]
 generalize hV : vldL 520 ava1 ZhK l = b0
 refine Zao (n := 48) (S := []) Zal Zak Tryz.func201 rfl rfl rfl ?_
 by_cases c0 : 520 < l.length
 ·refine gR 13 rfl ?_
  exact ZaE rfl (dqT (by omega)) (gR 7 rfl (Zab rfl rfl rfl fun w M => vl_L hV c0 M.ext))
 refine gR 13 rfl (Zav rfl (dqF (by omega)) (gR 11 rfl (Za1 (ι := Nat) ⟨fun (i : Nat) => l.length - i, fun (i : Nat) => i ≤ l.length ∧ (∀ j, j < i → vld1 ava1 ZhK l j = true), fun (i : Nat) => [(9, .int .i64 i), (8, .int .i64 l.length), (7, .slice q l.length cap), (0, .slice q l.length cap)], fun (i : Nat) => []⟩ 0 ⟨by omega, by omega⟩ (fun a F => F.only [9, 8, 7, 0] rfl) (sX 17179869183 rfl) ?_)))
 rintro i ⟨hi_i, hv⟩
 by_cases hlt_i : i < l.length
 ·obtain ⟨b, o, cs, t', fz, rfl, hb, hs⟩ := hm (by omega)
  obtain ⟨x, hx0⟩ : ∃ x, x = l[i] := ⟨_, rfl⟩
  have hxm : x ∈ l := by rw [hx0];exact List.getElem_mem hlt_i
  have hxi : IsAv x := hx _ hxm
  have f1 : seg cs (o + (i : Int).toNat * 37) 37 = some (avC x) := by rw [hx0];exact Za0 (ZgA hx) hs hlt_i (by omega)
  replace hx0 := hx0.symm
  have xd : IsDv x.to := hxi.1
  by_cases hi0 : 0 < i
  ·obtain ⟨y, hy0⟩ : ∃ y, y = l[i - 1]'(by omega) := ⟨_, rfl⟩
   have yI : IsAv y := by rw [hy0];exact hx _ (List.getElem_mem _)
   have f2 : seg cs (o + ((i : Int) - 1).toNat * 37) 37 = some (avC y) := by rw [hy0];exact Za0 (ZgA hx) hs (show i - 1 < l.length by omega) (by omega)
   replace hy0 := hy0.symm
   have yd : IsDv y.to := yI.1
   refine gR 6 rfl (ZaE rfl (dqT (by omega)) (gR 11 rfl (ZaG 35 48 rfl (by kernel_rfl) (fR 2 rfl (Zbb rfl rfl (by omega) (by omega) (fR 1 rfl (Zb1 rfl ‹_› (ZbP f1 (Zh0 ‹_›) (by omega)) ?_)))))))
   refine ZaH rfl rfl (fun w M => Zbg _ ‹_› _) ?_
   refine fR 2 rfl (ZbQ 19 rfl (fun h1 => ?_) (fun h1 => ?_))
   ·replace h1 := Zaa h1
    exact fR 27 rfl (Zap rfl rfl (gR 11 rfl (ZaM (gR 2 rfl (Zab rfl rfl rfl fun w M => vl_F hV hlt_i hx0.symm (by (unfold ava1;simp [*];done)) M.ext)))))
   ·replace h1 := Zac h1
    refine fR 2 rfl (Zbb rfl rfl (by omega) (by omega) (fR 1 rfl (Zb1 rfl ‹_› (ZbP f1 (Zrx ‹_›) (by omega)) ?_)))
    refine ZaH rfl rfl (fun w M => Zcv _ _) (fR 3 rfl (ZbQ 28 rfl (fun h2 => ?_) (fun h2 => ?_)))
    ·replace h2 := Zaa h2
     exact fR 18 rfl (Zap rfl rfl (gR 11 rfl (ZaM (gR 2 rfl (Zab rfl rfl rfl fun w M => vl_F hV hlt_i hx0.symm (by (unfold ava1;simp [*];done)) M.ext)))))
    ·replace h2 := Zac h2
     refine fR 3 rfl (ZaX 31 rfl (dqT (by omega)) (fR 2 rfl (ZdR rfl rfl (Zax (by omega) (by omega)) (Zbb rfl rfl (by omega) (by omega) (fR 1 rfl (Zb1 rfl ‹_› (ZbP f2 (Zh0 ‹_›) (by omega)) ?_))))))
     refine fR 2 rfl (Zbb rfl rfl (by omega) (by omega) (fR 1 rfl (Zb1 rfl ‹_› (ZbP f1 (Zh0 ‹_›) (by omega)) ?_)))
     refine ZaH rfl rfl (fun w M => Zbt _ _ ‹_› ‹_› _) ?_
     refine fR 3 rfl (Zap rfl rfl (gR 2 rfl (g_if rfl (fun h3 => ?_) (fun h3 => ?_))))
     ·replace h3 := dqU h3
      exact gR 8 rfl (ZaM (gR 2 rfl (Zab rfl rfl rfl fun w M => vl_S hV hlt_i hi0 hx0.symm hy0.symm (by unfold ZhK;omega) M.ext)))
     ·replace h3 := dqV h3
      refine gR 4 rfl (ZaK rfl rfl (Zax (by omega) (by omega)) (gR 2 rfl ?_))
      exact Zar (i + 1) ⟨by omega, vl_N hlt_i hx0.symm hv (by (unfold ava1;simp [*];done)) fun _ => by rw [hy0];exact (by unfold ZhK;omega)⟩ (by dsimp only;omega) (fun a F => F.only [9, 8, 7, 0] rfl) (sX 17179869183 rfl)
  ·refine gR 6 rfl ?_
   refine ZaE rfl (dqT (by omega)) (gR 11 rfl (ZaG 35 48 rfl (by kernel_rfl) (fR 2 rfl (Zbb rfl rfl (by omega) (by omega) (fR 1 rfl (Zb1 rfl ‹_› (ZbP ‹_› (Zh0 ‹_›) (by omega)) ?_))))))
   refine ZaH rfl rfl (fun w M => Zbg _ ‹_› _) ?_
   refine fR 2 rfl (ZbQ 19 rfl (fun h1 => ?_) (fun h1 => ?_))
   ·replace h1 := Zaa h1
    exact fR 27 rfl (Zap rfl rfl (gR 11 rfl (ZaM (gR 2 rfl (Zab rfl rfl rfl fun w M => vl_F hV hlt_i hx0.symm (by (unfold ava1;simp [*];done)) M.ext)))))
   ·replace h1 := Zac h1
    refine fR 2 rfl (Zbb rfl rfl (by omega) (by omega) (fR 1 rfl (Zb1 rfl ‹_› (ZbP ‹_› (Zrx ‹_›) (by omega)) ?_)))
    refine ZaH rfl rfl (fun w M => Zcv _ _) (fR 3 rfl (ZbQ 28 rfl (fun h2 => ?_) (fun h2 => ?_)))
    ·replace h2 := Zaa h2
     exact fR 18 rfl (Zap rfl rfl (gR 11 rfl (ZaM (gR 2 rfl (Zab rfl rfl rfl fun w M => vl_F hV hlt_i hx0.symm (by (unfold ava1;simp [*];done)) M.ext)))))
    ·replace h2 := Zac h2
     exact fR 3 rfl (ZaX 31 rfl (dqF (by omega)) (fR 15 rfl (Zap rfl rfl (gR 7 rfl (ZaK rfl rfl (Zax (by omega) (by omega)) (gR 2 rfl (Zar (i + 1) ⟨by omega, vl_N hlt_i hx0.symm hv (by (unfold ava1;simp [*];done)) fun h => absurd h hi0⟩ (by dsimp only;omega) (fun a F => F.only [9, 8, 7, 0] rfl) (sX 17179869183 rfl))))))))
 ·have hil : i = l.length := by omega
  rw [hil] at hv
  exact gR 6 rfl (Zav rfl (dqF (by omega)) (gR 2 rfl (ZaZ (gR 8 rfl (Zab rfl rfl rfl fun w M => vl_T hV (by omega) hv M.ext)))))
def plC (v : Value) (full : Int) : List Value := [v, .int .i64 full]
theorem Zpr (l : List AdvV) (hx : ∀ x ∈ l, IsAv x) (v : Value) (full : Int) (W : World) (hS : SlAt W 37 v l.length (avsC l)) :
  Cal Tryz.prog 107 [.agg (plC v full).toArray].toArray W fun r w' => r = .bool (Zee l && Za5 full) ∧ Ext [] W w' := by
 have k := Zid l hx v
 have h1 := hS.one
 unfold plC
 refine Zao (n := 11) (S := []) Zal Zak Tryz.func107 rfl rfl rfl (gR 2 rfl (ZaA rfl rfl fun b1 => gR 6 rfl (Zai 0 rfl rfl rfl (Zad rfl rfl (fun w M => Zid _ ‹_› _ _ ((by assumption : SlAt _ _ _ _ _).later M.ext)) ?_))))
 refine gR 1 rfl (Zan 6 rfl (fun h1 => ?_) (fun h1 => ?_))
 ·exact gR 1 rfl (Zai 0 rfl rfl rfl (Zad rfl rfl (fun w M => Zni _ _) (gR 5 rfl (Zab rfl rfl rfl fun w M => ⟨by simp [*], M.ext⟩))))
 ·exact gR 8 rfl (Zab rfl rfl rfl fun w M => ⟨by simp [*], M.ext⟩)
theorem ZpG (l : List AdvV) (hx : ∀ x ∈ l, IsAv x) (v : Value) (full : Int) (W : World) (hS : SlAt W 37 v l.length (avsC l)) :
  Cal Tryz.prog 117 [.agg (plC v full).toArray].toArray W fun r w' => r = .bool (Zee l && Za5 full) ∧ Ext [] W w' := by
 have k := Zig l hx v
 have h1 := hS.one
 unfold plC
 refine Zao (n := 11) (S := []) Zal Zak Tryz.func117 rfl rfl rfl (gR 2 rfl (ZaA rfl rfl fun b1 => gR 6 rfl (Zai 0 rfl rfl rfl (Zad rfl rfl (fun w M => Zig _ ‹_› _ _ ((by assumption : SlAt _ _ _ _ _).later M.ext)) ?_))))
 refine gR 1 rfl (Zan 6 rfl (fun h1 => ?_) (fun h1 => ?_))
 ·exact gR 1 rfl (Zai 0 rfl rfl rfl (Zad rfl rfl (fun w M => Zbd _ _) (gR 5 rfl (Zab rfl rfl rfl fun w M => ⟨by simp [*], M.ext⟩))))
 ·exact gR 8 rfl (Zab rfl rfl rfl fun w M => ⟨by simp [*], M.ext⟩)
end Go.Proofs.YtfhkmgcalcfibaaGreat
namespace Go.Proofs.YtfhkmgcalcfibaaGreat
open Go.ChangeShapes Go.WideShapes Go.ChangeAt Go.RowKit
section
variable {H : Type} {enc : TypeId × Value → H} {w : World} {base : Nat} {sp : Nat → Bool} {held : Bool}
set_option maxRecDepth 100000 in
theorem Zt7 (n : Nat) (cs : List Value) (y : DataW H × List MemPlace) (h : DataW.trod enc Tryz.prog w base sp held n 100 cs = some y) : ∃ x : AdvV, IsAv x ∧ cs = avC x := by
 have hw := Zcf 8 100 (List.replicate 16 (.i .u8) ++ (.i .i64 :: (List.replicate 16 (.i .u8) ++ [.i .i64, .i .u64, .i .u16, .i .i64]))) (by kernel_rfl) n cs y h (.inl (by kernel_rfl))
 obtain ⟨c0, c1, rfl, h1, h2⟩ := ZbD hw
 obtain ⟨a1, rfl, hl1, hb1⟩ := Zfe c0 16 h1
 obtain ⟨x1, c2, rfl, g1, h3⟩ := ZaL h2
 obtain ⟨c3, c4, rfl, h4, h5⟩ := ZbD (ks := List.replicate 16 (LK.i .u8)) (ks' := [LK.i .i64, LK.i .u64, LK.i .u16, LK.i .i64]) h3
 obtain ⟨a2, rfl, hl2, hb2⟩ := Zfe c3 16 h4
 obtain ⟨x2, c5, rfl, g2, h6⟩ := ZaL h5
 obtain ⟨x3, c6, rfl, g3, h7⟩ := ZaL h6
 obtain ⟨x4, c7, rfl, g4, h8⟩ := ZaL h7
 obtain ⟨x5, c8, rfl, g5, h9⟩ := ZaL h8
 obtain rfl := ZeC h9
 obtain ⟨n1, rfl, _, _⟩ := ZaT g1
 obtain ⟨n2, rfl, _, _⟩ := ZaT g2
 obtain ⟨n3, rfl, _, _⟩ := ZaT g3
 obtain ⟨n4, rfl, _, _⟩ := ZaT g4
 obtain ⟨n5, rfl, _, _⟩ := ZaT g5
 exact ⟨⟨⟨a1, n1, a2, n2, n3⟩, ⟨n4, n5⟩⟩, ⟨⟨⟨hl1, hb1⟩, ⟨hl2, hb2⟩⟩, trivial⟩, by simp [avC, dvC, diC, pfC]⟩
set_option maxRecDepth 100000 in
theorem ZqN (n : Nat) (cs : List Value) (y : DataW H × List MemPlace) (h : DataW.trod enc Tryz.prog w base sp held n 51 cs = some y) : ∃ (u : Value) (l : List AdvV) (fl : Int), (∀ x ∈ l, IsAv x) ∧ SlAt w 37 u l.length (avsC l) ∧ cs = plC u fl := by
 obtain ⟨xs, m, rfl, _, hl, hn, hat⟩ := DataW.trod_struct Tryz.underlying51 h
 have hc : Tryz.prog.cellsOf 51 = 2 := by kernel_rfl
 have hi : Tryz.prog.cellsOf 3 = 1 := by kernel_rfl
 have hp : Tryz.prog.cellsOf 49 = 1 := by kernel_rfl
 rw [hc] at hl
 have hxl : xs.length = 2 := hn
 have a0 : DataW.trod enc Tryz.prog w base sp held m 49 ((cs.drop 0).take (Tryz.prog.cellsOf 49)) = xs[0]? := hat 0 _ rfl
 have a1 : DataW.trod enc Tryz.prog w base sp held m 3 ((cs.drop 1).take (Tryz.prog.cellsOf 3)) = xs[1]? := hat 1 _ rfl
 rw [List.getElem?_eq_getElem (by omega)] at a0 a1
 rw [hp] at a0
 rw [hi] at a1
 obtain ⟨u, l, e0, hl0, hS, _⟩ := Zej (sz := 37) Tryz.underlying49 (by kernel_rfl) (by omega) Zt7 a0
 obtain ⟨fl, e1, _, _⟩ := DataW.trod_int Tryz.underlying3 a1
 refine ⟨u, l, fl, hl0, hS, ?_⟩
 match cs, hl, e0, e1 with
 | [c0, c1], _, e0, e1 =>
  simp only [List.drop_zero, List.take_succ_cons, List.take_zero, List.drop_succ_cons, List.cons.injEq, and_true] at e0 e1
  rw [e0, e1]
  rfl
end
section
variable {H : Type} {enc : TypeId × Value → H} {w : World} {r : Reach} {b0 base : Nat} {sp : Nat → Bool} {held : Bool} {v : Value} {d : DataW H} {p : List MemPlace}
theorem ZrD {P : Program} {t : TypeId} (ht : Zb7 P t = true) (hval : Value.okWide P w r b0 t v) : ∃ cs : List Value, v = .agg cs.toArray := by
 unfold Zb7 at ht
 unfold Value.okWide at hval
 split at ht
 ·rename_i hu;rw [hu] at hval;obtain ⟨cs, h, _⟩ := hval;exact ⟨cs.toList, by simpa using h⟩
 ·rename_i hu;rw [hu] at hval;obtain ⟨cs, h, _⟩ := hval;exact ⟨cs.toList, by simpa using h⟩
 ·cases ht
end
end Go.Proofs.YtfhkmgcalcfibaaGreat
