/- DERIVED. Texts of this claim, put together: SolH, SolL, Fam, SolAl, RNm, RVer, RRng, RChk. -/
import Derived.Test.YtaagkndhgicifaaGreatSolG
namespace Go.Proofs.YtaagkndhgicifaaGreat
set_option maxHeartbeats 32000000
open Go.RowKit Go.Shelf
set_option linter.unusedVariables false
set_option linter.unusedSimpArgs false
set_option maxRecDepth 100000
theorem solve_any (w0 : World) (B : Nat) (F : List Nat) (st : St) (h0 : StkAt w0 B F st) (p : Pk) (vp : Value) (Zp : Zone) (pool : List Pk) (hp0 : PkgsAt Zp w0 vp pool) (left : Int) (hl : left ≤ 2000) :
  Calls Tryz.prog 47 #[.pointer (some ⟨B, 0, none⟩), .agg #[strV p.1, .int .i64 p.2.1, .int .i64 p.2.2.1, .int .i64 p.2.2.2], vp, .int .i64 left] w0 (SolveP w0 (solveT st p pool left)) := by
 cases hr : st.rec? p with
 | none =>
  have := solve_none w0 B F st h0 p vp left hr
  have e : solveT st p pool left = (ch0, 0, 14) := by unfold solveT; rw [hr]
  rw [e]
  exact this
 | some r => exact solve_some w0 B F st h0 p vp Zp pool hp0 left hl r hr
theorem depsAt_none {Z : Zone} {w : World} : DepsAt Z w (.slice none 0 0) [] := ⟨none, 0, rfl, ⟨Nat.le_refl _, by simp, by unfold maxLen; omega, fun _ => ⟨rfl, rfl⟩⟩, fun h => absurd rfl h⟩
theorem depAt_one {Z : Zone} {w : World} {g : Nat} {n : List UInt8} {T : ByteArray} {lo hi : Int} {t : TypeId} (hT : strV n = .string T) (hn : n.length ≤ 1000) (h : w.heap[g]? = some (.cells #[.int .i64 lo, .int .i64 hi] t (0, 0))) (hz : Z g) : DepAt Z w (.string T) (.slice (some ⟨g, 0, none⟩) 1 1) (n, [(lo, hi)]) :=
 ⟨hT.symm, by dsimp only; omega, _, _, rfl, ⟨Nat.le_refl _, by simp, by unfold maxLen; omega, fun e => by cases e⟩, fun _ => ⟨g, 0, rfl, hz, loh h, fun i x hi => by
  cases i with
  | zero =>
   obtain rfl := sIj hi
   exact ⟨cOh h 0, cOh h 1⟩
  | succ i => cases hi⟩⟩
open Go.RowKit
theorem wp_region_fam {P : Program} {id : Nat} {Q : Exit → Act → World → Prop} {a : Act} {w : World} {l : List Oper} {ι : Type} (F : ι → World) (n0 : ι) (h0 : F n0 = { w with drawn := w.drawn + 1 }) (hm : P.follows .mixedOrders = true) (hB : Region.lexB .any l.toArray = true)
  (h : wpQuiet P l.toArray (fun w' => ∃ n, w' = F n) (fun a' => ∀ w', (∃ n, w' = F n) → Q .normal a' w') l a) : (Code.region id l.toArray true).wp P Q a w :=
 wp_region_quiet (C := fun w' => ∃ n, w' = F n) hm hB ⟨n0, h0.symm⟩ (by simpa using h)
theorem below_fam (w : World) : ∃ (ι : Type) (F : ι → World), (∀ k, ∃ n0, F n0 = w.drewN k) ∧ (∀ n, Below w.heap.size w (F n)) ∧ ∀ w', Below w.heap.size w w' → ∃ m, w' = F m :=
 ⟨{ w' : World // Below w.heap.size w w' }, Subtype.val, fun k => ⟨⟨w.drewN k, ⟨rfl, rfl, rfl, Nat.le_refl _, fun _ _ => rfl⟩⟩, rfl⟩, fun n => n.2, fun w' h => ⟨⟨w', h⟩, rfl⟩⟩
theorem calls_fam {P : Program} {f : FuncId} {args : Array Value} {v : Value} {w : World} {ι : Type} {F : ι → World} (hF : ∀ n, Below w.heap.size w (F n)) (hG : ∀ w', Below w.heap.size w w' → ∃ m, w' = F m)
  (h : ∀ W, Below w.heap.size w W → Calls P f args W (fun e w' => e = .returned v ∧ Below W.heap.size W w')) : ∀ n, Calls P f args (F n) (fun e w' => e = .returned v ∧ ∃ m, w' = F m) :=
 fun n => (h _ (hF n)).mono fun _ _ ⟨h1, h2⟩ => ⟨h1, hG _ ((hF n).trans (h2.mono (hF n).size))⟩
def StkOwn (w0 w : World) (B : Nat) (st : St) : Prop := ∃ F, StkAt w B F st ∧ (∀ b ∈ F, w0.heap.size ≤ b) ∧ Below w0.heap.size w0 w
theorem StkOwn.below {w0 w w' : World} {B : Nat} {st : St} (h : StkOwn w0 w B st) (hb : Below w.heap.size w w') : StkOwn w0 w' B st := by
 obtain ⟨F, h1, h2, h3⟩ := h
 exact ⟨F, h1.below hb, h2, h3.trans (hb.mono h3.size)⟩
theorem StkOwn.step {w0 w w' : World} {B : Nat} {F : List Nat} {st' : St} {c : Int} {e : Ending} (hF : ∀ b ∈ F, w0.heap.size ≤ b) (hb : Below w0.heap.size w0 w) (h : SeedP w B F st' c e w') : e = .returned (.int .i64 c) ∧ StkOwn w0 w' B st' := by
 obtain ⟨rfl, F', h1, h2, h3⟩ := h
 exact ⟨rfl, F', h1, fun b hb' => (h3 b hb').elim (hF b) (fun h => Nat.le_trans hb.size h), hb.trans (boC h2 hF hb.size)⟩
theorem StkOwn.below0 {w0 w : World} {B : Nat} {st : St} (h : StkOwn w0 w B st) : Below w0.heap.size w0 w := by obtain ⟨F, h1, h2, h3⟩ := h; exact h3
theorem own_seed {w0 w : World} {B : Nat} {st : St} (h : StkOwn w0 w B st) (n : List UInt8) (k : Int) (hl : n.length ≤ 1000) {T : ByteArray} (hT : strV n = .string T) : Calls Tryz.prog 26 #[.pointer (some ⟨B, 0, none⟩), .agg #[.string T, .int .i64 k, .int .i64 0, .int .i64 0]] w (fun e w' => e = .returned (.int .i64 (st.seed (n, k, 0, 0)).2) ∧ StkOwn w0 w' B (st.seed (n, k, 0, 0)).1) := by
 obtain ⟨F, h1, h2, h3⟩ := h
 have := stkseed_any w B F st h1 (n, k, 0, 0) (by dsimp only; omega)
 dsimp only at this
 rw [hT] at this
 exact this.mono fun e w' h => StkOwn.step h2 h3 h
theorem own_add {w0 w : World} {B : Nat} {st : St} (h : StkOwn w0 w B st) (n : List UInt8) (k : Int) (hl : n.length ≤ 1000) {T : ByteArray} (hT : strV n = .string T) {Z : Zone} {tl : Dp} {bd rn : List Dp} {v0 v1 v2 v3 : Value} (hd : DepAt Z w v0 v1 tl) (hb : DepsAt Z w v2 bd) (hr : DepsAt Z w v3 rn) : Calls Tryz.prog 28 #[.pointer (some ⟨B, 0, none⟩), .agg #[.string T, .int .i64 k, .int .i64 0, .int .i64 0, v0, v1, v2, v3]] w (fun e w' => e = .returned (.int .i64 (st.add ⟨(n, k, 0, 0), tl, bd, rn⟩).2) ∧ StkOwn w0 w' B (st.add ⟨(n, k, 0, 0), tl, bd, rn⟩).1) := by
 obtain ⟨F, h1, h2, h3⟩ := h
 have := stkadd_any w B F st h1 Z _ ⟨(n, k, 0, 0), tl, bd, rn⟩ ⟨v0, v1, v2, v3, rfl, by dsimp only; omega, hd, hb, hr⟩
 dsimp only at this
 rw [hT] at this
 exact this.mono fun e w' h => StkOwn.step h2 h3 h
def n_cc : List UInt8 := [99, 99]
theorem byte_at (S : ByteArray) (k : Nat) (hk : k < S.size) : S.data.toList[k]? = some (S[k]'hk) := by rw [gEg (by simp; exact hk)]; rfl
theorem nameB_bad {l : List UInt8} {k : Nat} {c : UInt8} (h : l[k]? = some c) (hc : okB c = false) : nameB l = false := by
 unfold nameB
 rw [all_bad h hc, Bool.and_false]
theorem nameB_dot {l : List UInt8} (h : l[0]? = some 46) : nameB l = false := by
 unfold nameB
 rw [List.head?_eq_getElem?, h]; simp
theorem nameB_full {l : List UInt8} (h : l.all okB = true) (h0 : 0 < l.length → l[0]? ≠ some 46) : nameB l = (decide (1 ≤ l.length) && decide (l.length ≤ 32)) := by
 unfold nameB
 rw [h, List.head?_eq_getElem?]
 cases l with
 | nil => rfl
 | cons c r =>
  have := h0 (by simp)
  have e : ((c :: r)[0]? != some 46) = true := by simpa using this
  rw [e]; simp
theorem ret_bool {b v : Bool} (h : b = v) : Ending.returned (Value.bool b) = Ending.returned (Value.bool v) := by rw [h]
set_option maxRecDepth 100000 in
theorem rname_any (S : ByteArray) (w : World) (hs : S.size ≤ 140737488351232) : Calls Tryz.prog 116 #[.string S] w (fun e w' => e = .returned (.bool (nameB S.data.toList)) ∧ w = w') := by
 obtain ⟨R, hR⟩ : ∃ R, R = nameB S.data.toList := ⟨_, rfl⟩
 rw [← hR]
 have HR := hdL hR; clear hR
 have hsl : S.data.toList.length = S.size := by simp
 have HSL := hdL hsl; clear hsl
 go_enter Tryz.func116, Tryz.ntmps116
 go_wp2
 go_loopw [3] (fun i wr => ∃ k : Nat, i = .int .i64 k ∧ k ≤ S.size ∧ Hid ((S.data.toList.take k).all okB = true) ∧ Hid (0 < k → S.data.toList[0]? ≠ some 46) ∧ wr = w) (fun i _ => S.size - (intOf i).toNat)
 case atStart => exact ⟨0, rfl, Nat.zero_le _, rfl, fun h => absurd h (Nat.lt_irrefl _), rfl⟩
 case round =>
  obtain ⟨k, rfl, hk, hall, hdot, rfl⟩ := hrel
  by_cases hlt : k < S.size
  ·have hget := byte_at S k hlt
   have hok := okR_byte (S[k]'hlt)
   obtain ⟨z, hz⟩ : ∃ z : Int, ((S[k]'hlt).toNat : Int) = z := ⟨_, rfl⟩
   rw [hz] at hok
   have h46 : z = 46 → S[k]'hlt = 46 := by intro h; rw [← UInt8.toNat_inj]; show _ = 46; omega
   have h46' : z ≠ 46 → S[k]'hlt ≠ 46 := by intro h e; rw [e] at hz; exact h hz.symm
   have hgo : okR z = true → (k = 0 → z ≠ 46) → (S.data.toList.take (k + 1)).all okB = true ∧ (0 < k + 1 → S.data.toList[0]? ≠ some 46) := by
    intro h1 h2
    refine ⟨all_take hall.out hget (by rw [← hok]; exact h1), fun _ => ?_⟩
    by_cases h0 : k = 0
    ·subst h0
     rw [hget]
     intro e
     exact h46' (h2 rfl) (sIj e)
    ·exact hdot.out (by omega)
   have hbad : okR z = false → R = false := by
    intro h; rw [HR.out]; exact nameB_bad hget (by rw [← hok]; exact h)
   have hbad0 : k = 0 → z = 46 → R = false := by
    intro h0 h
    subst h0
    rw [HR.out]; exact nameB_dot (by rw [hget, h46 h])
   have HGO := hdL hgo; have HBAD := hdL hbad; have HB0 := hdL hbad0
   have hzb : 0 ≤ z ∧ z ≤ 255 := by have := (S[k]'hlt).toNat_lt; omega
   clear hget hok h46 h46' hgo hbad hbad0
   rcases (show ((97 ≤ z ∧ z ≤ 122) ∨ (48 ≤ z ∧ z ≤ 57) ∨ z = 45 ∨ z = 95 ∨ (z = 46 ∧ 0 < k)) ∨ ((z = 46 ∧ k = 0) ∨ (z < 48 ∧ z ≠ 45 ∧ z ≠ 46) ∨ (57 < z ∧ z < 97 ∧ z ≠ 95) ∨ 122 < z) from by omega) with hgood | hb
   ·have hg : okR z = true := by unfold okR; simp; omega
    have G := hdL (HGO.out hg (by omega))
    clear hg
    rcases hgood with h | h | rfl | rfl | ⟨rfl, hk0⟩
    all_goals
     go_wp2
     go_roundw
     case rel => exact ⟨k + 1, by go_num, hlt, G.out.1, G.out.2, by trivial⟩
     case measure => simp [intOf]; omega
   ·rcases hb with ⟨rfl, rfl⟩ | ⟨h1, h2, h3⟩ | ⟨h1, h2, h3⟩ | h1
    ·obtain rfl := HB0.out rfl rfl
     go_wp2
     go_ret
     exact ⟨rfl, rfl⟩
    ·obtain rfl := HBAD.out (by unfold okR; simp; omega)
     have n1 : (z != 45) = true := by simpa using h2
     have n2 : (z != 46) = true := by simpa using h3
     have n3 : (z != 95) = true := by simp; omega
     have n4 : decide (48 ≤ z) = false := by simp; omega
     have n5 : decide (97 ≤ z) = false := by simp; omega
     go_wp2
     go_ret
     exact ⟨rfl, rfl⟩
    ·obtain rfl := HBAD.out (by unfold okR; simp; omega)
     have n1 : (z != 45) = true := by simp; omega
     have n2 : (z != 46) = true := by simp; omega
     have n3 : (z != 95) = true := by simpa using h3
     have n4 : decide (z ≤ 57) = false := by simp; omega
     have n5 : decide (97 ≤ z) = false := by simp; omega
     go_wp2
     go_ret
     exact ⟨rfl, rfl⟩
    ·obtain rfl := HBAD.out (by unfold okR; simp; omega)
     have n1 : (z != 45) = true := by simp; omega
     have n2 : (z != 46) = true := by simp; omega
     have n3 : (z != 95) = true := by simp; omega
     have n4 : decide (z ≤ 57) = false := by simp; omega
     have n5 : decide (z ≤ 122) = false := by simp; omega
     go_wp2
     go_ret
     exact ⟨rfl, rfl⟩
  ·obtain rfl : k = S.size := by omega
   have hR : R = (decide (1 ≤ S.size) && decide (S.size ≤ 32)) := by
    rw [HR.out, nameB_full (by have := hall.out; rwa [tLe (by rw [HSL.out]; exact Nat.le_refl _)] at this) (by rw [HSL.out]; exact hdot.out), HSL.out]
   have HR2 := hdL hR; clear hR
   by_cases h1 : 1 ≤ S.size
   ·by_cases h2 : S.size ≤ 32
    ·have e1 : R = true := by rw [HR2.out]; simp [h1, h2]
     subst e1
     go_wp2
     go_ret
     refine ⟨ret_bool ?_, rfl⟩
     first | rfl | (simp; omega)
    ·have e1 : R = false := by rw [HR2.out]; simp [h2]
     subst e1
     go_wp2
     go_ret
     refine ⟨ret_bool ?_, rfl⟩
     first | rfl | (simp; omega)
   ·have e1 : R = false := by rw [HR2.out]; simp [h1]
    subst e1
    go_wp2
    go_ret
    refine ⟨ret_bool ?_, rfl⟩
    first | rfl | (simp; omega)
theorem rvgood_any (w : World) (v : Ver) : Calls Tryz.prog 117 #[.agg #[.int .i64 v.1, .int .i64 v.2.1, .int .i64 v.2.2]] w (fun e w' => e = .returned (.bool (verGood v)) ∧ Below w.heap.size w w') := by
 obtain ⟨a, b, c⟩ := v
 dsimp only
 obtain ⟨R, hR⟩ : ∃ R, R = verGood (a, b, c) := ⟨_, rfl⟩
 rw [← hR]
 obtain ⟨w1, hw1, hb1, hx1, y1, y2⟩ := aBk w #[.int .i64 a, .int .i64 b, .int .i64 c] 39
 obtain ⟨k0, k1, k2⟩ := cells3 hx1
 have HB := hdL hb1
 have hf : ¬ ((0 ≤ a ∧ a ≤ 999) ∧ (0 ≤ b ∧ b ≤ 999) ∧ (0 ≤ c ∧ c ≤ 999)) → R = false := fun h => by
  rw [hR]
  cases hg : verGood (a, b, c)
  ·rfl
  ·exact absurd (verGood_iff.1 hg) h
 have ht : ((0 ≤ a ∧ a ≤ 999) ∧ (0 ≤ b ∧ b ≤ 999) ∧ (0 ≤ c ∧ c ≤ 999)) → R = true := fun h => by
  rw [hR]
  exact verGood_iff.2 h
 have HF := hdL hf; have HT := hdL ht
 clear hR hf ht hx1 hb1
 have key : ∀ x : Int, (decide (0 ≤ x) = false ∧ ¬ (0 ≤ x ∧ x ≤ 999)) ∨ (decide (0 ≤ x) = true ∧ decide (x ≤ 999) = false ∧ ¬ (0 ≤ x ∧ x ≤ 999)) ∨ (decide (0 ≤ x) = true ∧ decide (x ≤ 999) = true ∧ (0 ≤ x ∧ x ≤ 999)) := fun x => by
  rcases (show x < 0 ∨ (0 ≤ x ∧ 999 < x) ∨ (0 ≤ x ∧ x ≤ 999) from by omega) with h | h | h
  ·exact .inl ⟨by simp; omega, by omega⟩
  ·exact .inr (.inl ⟨by simp; omega, by simp; omega, by omega⟩)
  ·exact .inr (.inr ⟨by simp; omega, by simp; omega, by omega⟩)
 rcases key a with ⟨n1, h⟩ | ⟨n1, n2, h⟩ | ⟨n1, n2, ha⟩
 ·obtain rfl := HF.out (fun e => h e.1)
  clear key h
  go_enter Tryz.func117, Tryz.ntmps117
  go_wp2_with fail
  go_ret
  exact ⟨by first | rfl | simp, HB.out⟩
 ·obtain rfl := HF.out (fun e => h e.1)
  clear key h
  go_enter Tryz.func117, Tryz.ntmps117
  go_wp2_with fail
  go_ret
  exact ⟨by first | rfl | simp, HB.out⟩
 ·have HA := hdL ha
  clear ha
  rcases key b with ⟨n3, h⟩ | ⟨n3, n4, h⟩ | ⟨n3, n4, hb⟩
  ·obtain rfl := HF.out (fun e => h e.2.1)
   clear key h
   go_enter Tryz.func117, Tryz.ntmps117
   go_wp2_with fail
   go_ret
   exact ⟨by first | rfl | simp, HB.out⟩
  ·obtain rfl := HF.out (fun e => h e.2.1)
   clear key h
   go_enter Tryz.func117, Tryz.ntmps117
   go_wp2_with fail
   go_ret
   exact ⟨by first | rfl | simp, HB.out⟩
  ·have HBB := hdL hb
   clear hb
   rcases key c with ⟨n5, h⟩ | ⟨n5, n6, h⟩ | ⟨n5, n6, hc⟩
   ·obtain rfl := HF.out (fun e => h e.2.2)
    clear key h
    go_enter Tryz.func117, Tryz.ntmps117
    go_wp2_with fail
    go_ret
    exact ⟨by first | rfl | simp, HB.out⟩
   ·obtain rfl := HF.out (fun e => h e.2.2)
    clear key h
    go_enter Tryz.func117, Tryz.ntmps117
    go_wp2_with fail
    go_ret
    exact ⟨by first | rfl | simp, HB.out⟩
   ·obtain rfl := HT.out ⟨HA.out, HBB.out, hc⟩
    clear key hc
    go_enter Tryz.func117, Tryz.ntmps117
    go_wp2_with fail
    go_ret
    exact ⟨by first | rfl | simp, HB.out⟩
theorem rvnum_any (w : World) (v : Ver) : Calls Tryz.prog 132 #[.agg #[.int .i64 v.1, .int .i64 v.2.1, .int .i64 v.2.2]] w (fun e w' => e = .returned (.int .i64 (verNum v)) ∧ Below w.heap.size w w') := by
 have hG := fun W => rvgood_any W v
 obtain ⟨R, hR⟩ : ∃ R, R = verNum v := ⟨_, rfl⟩
 unfold verNum at hR
 have hgi := verGood_iff (v := v)
 obtain ⟨a, b, c⟩ := v
 dsimp only at hG hR hgi ⊢
 rw [show verNum (a, b, c) = R by rw [hR]; rfl]
 obtain ⟨w1, hw1, hb1, hx1, y1, y2⟩ := aBk w #[.int .i64 a, .int .i64 b, .int .i64 c] 39
 obtain ⟨k0, k1, k2⟩ := cells3 hx1
 have HX := hdL hx1; have HB := hdL hb1
 clear hx1 hb1
 cases hg : verGood (a, b, c)
 ·rw [hg, if_neg (by simp)] at hR
  have hG1 := hG w1
  rw [hg] at hG1
  have HG := hdL hG1; have HR := hdL hR
  clear hG hG1 hg hgi hR
  go_enter Tryz.func132, Tryz.ntmps132
  go_wp2_with fail
  refine HG.out.mono ?_
  rintro e w2 ⟨rfl, h2⟩
  have H2 := hdL (HB.out.trans (h2.mono HB.out.size))
  clear h2
  go_wp2_with fail
  go_ret
  exact ⟨by (rw [HR.out]; rfl), H2.out⟩
 ·rw [hg, if_pos rfl] at hR
  obtain ⟨⟨g1, g2⟩, ⟨g3, g4⟩, g5, g6⟩ := hgi.1 hg
  have hG1 := hG w1
  rw [hg] at hG1
  have HG := hdL hG1; have HR := hdL hR
  clear hG hG1 hg hgi hR
  go_enter Tryz.func132, Tryz.ntmps132
  go_wp2_with fail
  refine HG.out.mono ?_
  rintro e w2 ⟨rfl, h2⟩
  have H2 := hdL (HB.out.trans (h2.mono HB.out.size))
  have hx2 := (h2.block _ (loh HX.out)).trans HX.out
  obtain ⟨j0, j1, j2⟩ := cells3 hx2
  clear h2 hx2 k0 k1 k2
  go_wp2_with fail
  go_ret
  refine ⟨?_, H2.out⟩
  rw [HR.out]
  show Ending.returned (Value.int .i64 (1000000 * a + 1000 * b + c)) = Ending.returned (Value.int .i64 ((a * 1000 + b) * 1000 + c))
  rw [show 1000000 * a + 1000 * b + c = (a * 1000 + b) * 1000 + c from by omega]
theorem rin_any (w : World) (Z : Zone) (v : Value) (gs : List Gap) (h : GapsAt Z w v gs) (q : Int) :
  Calls Tryz.prog 131 #[v, .int .i64 q] w (fun e w' => e = .returned (.bool (inGaps gs q)) ∧ Below w.heap.size w w') := by
 obtain ⟨a, c, rfl, hb, hc⟩ := h
 obtain ⟨n, hnn⟩ : ∃ n, n = gs.length := ⟨_, rfl⟩
 obtain ⟨R, hR⟩ : ∃ R, R = inGaps gs q := ⟨_, rfl⟩
 rw [← hR]
 rw [inGaps_eq] at hR
 rw [← hnn] at hb ⊢
 have hnl : n ≤ 8796093022208 := hb.max
 have HN := hdL hnn; have HR := hdL hR; have HC := hdL hc
 clear hnn hR hc hb
 go_enter Tryz.func131, Tryz.ntmps131
 go_wp2_with fail
 go_loopw [9] (fun x wr => ∃ k : Nat, x = .int .i64 k ∧ k ≤ n ∧ Hid ((gs.take k).any (gapB q) = false) ∧ Hid (Below w.heap.size w wr)) (fun x _ => n - (intOf x).toNat)
 case atStart => exact ⟨0, rfl, Nat.zero_le _, rfl, Below.refl _ _⟩
 case round =>
  obtain ⟨k, rfl, hkn, hno, hbw⟩ := hrel
  by_cases hlt : k < n
  ·obtain ⟨g, hg⟩ : ∃ g, gs[k]? = some g := ⟨_, gEg (by rw [← HN.out]; exact hlt)⟩
   obtain ⟨b, o, rfl, _, _, hcs⟩ := HC.out (fun e => by rw [e] at hg; cases hg)
   obtain ⟨c0, c1⟩ := hcs k g hg
   have c0 := bkp hbw.out _ _ c0
   have c1 := bkp hbw.out _ _ c1
   have hgb : gapB q g = decide (g.1 ≤ q ∧ q < g.2) := rfl
   obtain ⟨lo, hlo⟩ : ∃ x, x = g.1 := ⟨_, rfl⟩
   obtain ⟨hi, hhi⟩ : ∃ x, x = g.2 := ⟨_, rfl⟩
   rw [← hlo] at c0 hgb; rw [← hhi] at c1 hgb
   obtain ⟨w3, hw3, hb3, hx3, y1, y2⟩ := two_block wr (.int .i64 lo) (.int .i64 hi) 125
   obtain ⟨k0, k1⟩ := cells2 hx3
   have H3 := hdL (hbw.out.trans (hb3.mono hbw.out.size))
   have HG := hdL hg
   clear hcs hg hlo hhi hb3 hx3
   by_cases h1 : lo ≤ q
   ·by_cases h2 : q < hi
    ·have HY := hdL (show R = true by rw [HR.out]; exact any_yes HG.out (by rw [hgb]; exact decide_eq_true ⟨h1, h2⟩))
     clear hgb
     go_wp2_with fail
     go_ret
     exact ⟨by (rw [HY.out]; rfl), H3.out⟩
    ·have HNO := hdL (any_takes hno.out HG.out (by rw [hgb]; exact decide_eq_false (fun h => h2 h.2)))
     clear hgb
     go_wp2_with fail
     go_roundw
     case rel => exact ⟨k + 1, by go_num, hlt, HNO, H3⟩
     case measure => simp [intOf]; omega
   ·have HNO := hdL (any_takes hno.out HG.out (by rw [hgb]; exact decide_eq_false (fun h => h1 h.1)))
    clear hgb
    go_wp2_with fail
    go_roundw
    case rel => exact ⟨k + 1, by go_num, hlt, HNO, H3⟩
    case measure => simp [intOf]; omega
  ·obtain rfl : k = n := by omega
   have HY := hdL (show R = false by
    have := hno.out
    rw [tLe (by rw [← HN.out]; omega)] at this
    rw [HR.out]; exact this)
   go_wp2_with fail
   go_ret
   exact ⟨by (rw [HY.out]; rfl), hbw.out⟩
theorem rhas_any (w : World) (Z : Zone) (v : Value) (gs : List Gap) (u : Ver) (h : GapsAt Z w v gs) :
  Calls Tryz.prog 91 #[v, .agg #[.int .i64 u.1, .int .i64 u.2.1, .int .i64 u.2.2]] w (fun e w' => e = .returned (.bool (spanHas gs u)) ∧ Below w.heap.size w w') := by
 have h0 := h
 obtain ⟨a, cp, rfl, -⟩ := h0
 have hG := fun W => rvgood_any W u
 have hNm := fun W => rvnum_any W u
 have hI := fun W (hw : Below w.heap.size w W) q => rin_any W Z _ gs (h.below hw) q
 obtain ⟨n, hn⟩ : ∃ n, n = gs.length := ⟨_, rfl⟩
 rw [← hn] at hI ⊢
 obtain ⟨R, hR⟩ : ∃ R, R = spanHas gs u := ⟨_, rfl⟩
 rw [← hR]
 unfold spanHas at hR
 obtain ⟨q, hq⟩ : ∃ q, q = verNum u := ⟨_, rfl⟩
 rw [← hq] at hR hNm
 obtain ⟨x, y, z⟩ := u
 dsimp only at hG hNm ⊢
 obtain ⟨w1, hw1, hb1, hx1, y1, y2⟩ := aBk w #[.int .i64 x, .int .i64 y, .int .i64 z] 39
 obtain ⟨k0, k1, k2⟩ := cells3 hx1
 have HX := hdL hx1; have HB := hdL hb1; have HI := hdL hI; have HNM := hdL hNm
 have HG0 := hdL hG; have HN := hdL hn
 clear hx1 hb1 hI hNm h hG hn hq
 cases hg : verGood (x, y, z)
 ·rw [hg, Bool.false_and] at hR
  have HG := hdL (by have := HG0.out w1; rw [hg] at this; exact this)
  have HR := hdL hR
  clear hR hg
  go_enter Tryz.func91, Tryz.ntmps91
  go_wp2_with fail
  refine HG.out.mono ?_
  rintro e w2 ⟨rfl, h2⟩
  have H2 := hdL (HB.out.trans (h2.mono HB.out.size))
  clear h2
  go_wp2_with fail
  go_ret
  exact ⟨by (rw [HR.out]; rfl), H2.out⟩
 ·rw [hg, Bool.true_and] at hR
  have HG := hdL (by have := HG0.out w1; rw [hg] at this; exact this)
  have HR := hdL hR
  clear hR hg
  go_enter Tryz.func91, Tryz.ntmps91
  go_wp2_with fail
  refine HG.out.mono ?_
  rintro e w2 ⟨rfl, h2⟩
  have H2 := hdL (HB.out.trans (h2.mono HB.out.size))
  have hx2 := (h2.block _ (loh HX.out)).trans HX.out
  obtain ⟨j0, j1, j2⟩ := cells3 hx2
  clear h2 hx2 k0 k1 k2
  go_wp2_with fail
  refine (HNM.out _).mono ?_
  rintro e w3 ⟨rfl, h3⟩
  have H3 := hdL (H2.out.trans (h3.mono H2.out.size))
  clear h3 j0 j1 j2
  go_wp2_with fail
  refine (HI.out _ H3.out _).mono ?_
  rintro e w4 ⟨rfl, h4⟩
  have H4 := hdL (H3.out.trans (h4.mono H3.out.size))
  clear h4
  go_wp2_with fail
  go_ret
  exact ⟨by (rw [HR.out]; rfl), H4.out⟩
theorem rise_no {L : Int} {gs : List Gap} {k : Nat} {g : Gap} (h : gs[k]? = some g) (hn : ¬ (L < g.1 ∧ g.1 < g.2 ∧ g.2 ≤ 1000000000)) : rise L (gs.drop k) = false := by
 rw [rise_at h, decide_eq_false hn, Bool.false_and]
theorem rise_yes {L : Int} {gs : List Gap} {k : Nat} {g : Gap} (h : gs[k]? = some g) (hy : L < g.1 ∧ g.1 < g.2 ∧ g.2 ≤ 1000000000) : rise L (gs.drop k) = rise g.2 (gs.drop (k + 1)) := by
 rw [rise_at h, decide_eq_true hy, Bool.true_and]
theorem rrange_any (w : World) (Z : Zone) (v : Value) (gs : List Gap) (h : GapsAt Z w v gs) :
  Calls Tryz.prog 151 #[v] w (fun e w' => e = .returned (.bool (rangeB gs)) ∧ Below w.heap.size w w') := by
 obtain ⟨a, c, rfl, hb, hc⟩ := h
 obtain ⟨n, hnn⟩ : ∃ n, n = gs.length := ⟨_, rfl⟩
 obtain ⟨R, hR⟩ : ∃ R, R = rangeB gs := ⟨_, rfl⟩
 rw [← hR]
 unfold rangeB at hR
 rw [← hnn] at hb hR ⊢
 have hnl : n ≤ 8796093022208 := hb.max
 have HN := hdL hnn; have HR := hdL hR; have HC := hdL hc
 clear hnn hR hc hb
 go_enter Tryz.func151, Tryz.ntmps151
 by_cases h16 : n ≤ 16
 ·have h16' : ¬ 16 < (n : Int) := by omega
  have HRR := hdL (show R = rise (-1) (gs.drop 0) by rw [HR.out, decide_eq_true h16, Bool.and_true, List.drop_zero])
  go_wp2_with fail
  go_loopw [9] (fun x wr => ∃ (k : Nat) (L : Int), x = .int .i64 k ∧ k ≤ n ∧ Hid (R = rise L (gs.drop k)) ∧ Hid ((k = 0 ∧ L = -1) ∨ ∃ j g, k = j + 1 ∧ gs[j]? = some g ∧ L = g.2 ∧ 0 ≤ L) ∧ Hid (Below w.heap.size w wr)) (fun x _ => n - (intOf x).toNat)
  case atStart => exact ⟨0, -1, rfl, Nat.zero_le _, HRR, .inl ⟨rfl, rfl⟩, Below.refl _ _⟩
  case round =>
   obtain ⟨k, L, rfl, hkn, hri, hprev, hbw⟩ := hrel
   by_cases hlt : k < n
   ·obtain ⟨g, hg⟩ : ∃ g, gs[k]? = some g := ⟨_, gEg (by rw [← HN.out]; exact hlt)⟩
    obtain ⟨b, o, rfl, _, _, hcs⟩ := HC.out (fun e => by rw [e] at hg; cases hg)
    obtain ⟨c0, c1⟩ := hcs k g hg
    have c0 := bkp hbw.out _ _ c0
    have c1 := bkp hbw.out _ _ c1
    have HNO := hdL (fun hn => (hri.out.trans (rise_no (L := L) hg hn) : R = false))
    have HYE := hdL (fun hy => (hri.out.trans (rise_yes (L := L) hg hy) : R = _))
    have HG := hdL hg
    obtain ⟨lo, hlo⟩ : ∃ x, x = g.1 := ⟨_, rfl⟩
    obtain ⟨hi, hhi⟩ : ∃ x, x = g.2 := ⟨_, rfl⟩
    rw [← hlo, ← hhi] at HNO
    rw [← hlo, ← hhi] at HYE
    rw [← hlo] at c0; rw [← hhi] at c1
    have HHI := hdL hhi
    by_cases h1 : lo < 0
    ·obtain rfl := HNO.out (by have := hprev.out; rcases this with ⟨-, e⟩ | ⟨j, g', -, -, -, e⟩ <;> omega)
     have d0 := (show decide (lo < 0) = true by simp; omega)
     clear hcs hg hlo hhi h1
     go_wp2_with fail
     go_quiet (fail)
     go_wp2_with fail
     go_ret
     exact ⟨by first | rfl | simp, Below.drewN hbw.out _⟩
    ·by_cases h2 : hi ≤ lo
     ·obtain rfl := HNO.out (by omega)
      have d0 := (show decide (lo < 0) = false by simp; omega)
      have d1 := (show decide (hi ≤ lo) = true by simp; omega)
      clear hcs hg hlo hhi h1 h2
      go_wp2_with fail
      go_quiet (fail)
      go_wp2_with fail
      go_ret
      exact ⟨by first | rfl | simp, Below.drewN hbw.out _⟩
     ·by_cases h3 : 1000000000 < hi
      ·obtain rfl := HNO.out (by omega)
       have d0 := (show decide (lo < 0) = false by simp; omega)
       have d1 := (show decide (hi ≤ lo) = false by simp; omega)
       have d2 := (show decide (1000000000 < hi) = true by simp; omega)
       clear hcs hg hlo hhi h1 h2 h3
       go_wp2_with fail
       go_quiet (fail)
       go_wp2_with fail
       go_ret
       exact ⟨by first | rfl | simp, Below.drewN hbw.out _⟩
      ·rcases hprev.out with ⟨rfl, hL⟩ | ⟨j, g', rfl, hg', hL, hL0⟩
       ·have HR2 := hdL (HYE.out (by omega))
        have HP := hdL (show ((0 + 1 : Nat) = 0 ∧ hi = -1) ∨ ∃ j g, (0 + 1 : Nat) = j + 1 ∧ gs[j]? = some g ∧ hi = g.2 ∧ 0 ≤ hi from .inr ⟨0, g, rfl, HG.out, HHI.out, by omega⟩)
        have d0 := (show decide (lo < 0) = false by simp; omega)
        have d1 := (show decide (hi ≤ lo) = false by simp; omega)
        have d2 := (show decide (1000000000 < hi) = false by simp; omega)
        have d3 : decide ((0 : Int) < ((0 : Nat) : Int)) = false := by simp
        simp only [Nat.zero_mul, Nat.add_zero] at c0 c1
        clear hcs hg hlo hhi h1 h2 h3 hL
        go_wp2_with fail
        go_quiet (fail)
        go_wp2_with fail
        go_roundw
        case rel => exact ⟨0 + 1, hi, by go_num, hlt, HR2, HP, Below.drewN hbw.out _⟩
        case measure => simp [intOf]; omega
       ·obtain ⟨p0, p1⟩ := hcs j g' hg'
        rw [← hL] at p1
        have p0 := bkp hbw.out _ _ p0
        have p1 := bkp hbw.out _ _ p1
        obtain ⟨plo, hplo⟩ : ∃ x, x = g'.1 := ⟨_, rfl⟩
        rw [← hplo] at p0
        have HP := hdL (show (j + 1 + 1 = 0 ∧ hi = -1) ∨ ∃ i g, j + 1 + 1 = i + 1 ∧ gs[i]? = some g ∧ hi = g.2 ∧ 0 ≤ hi from .inr ⟨j + 1, g, rfl, HG.out, HHI.out, by omega⟩)
        by_cases h4 : lo ≤ L
        ·obtain rfl := HNO.out (by omega)
         have d0 := (show decide (lo < 0) = false by simp; omega)
         have d1 := (show decide (hi ≤ lo) = false by simp; omega)
         have d2 := (show decide (1000000000 < hi) = false by simp; omega)
         have d3 : decide ((0 : Int) < (((j + 1 : Nat)) : Int)) = true := by first | (simp; done) | (simp; omega)
         have d4 := (show decide (lo ≤ L) = true by simp; omega)
         clear hcs hg hlo hhi hL hg' hplo h1 h2 h3 h4
         go_wp2_with fail
         go_quiet (fail)
         go_wp2_with fail
         go_ret
         exact ⟨by first | rfl | simp, Below.drewN hbw.out _⟩
        ·have HR2 := hdL (HYE.out (by omega))
         have d0 := (show decide (lo < 0) = false by simp; omega)
         have d1 := (show decide (hi ≤ lo) = false by simp; omega)
         have d2 := (show decide (1000000000 < hi) = false by simp; omega)
         have d3 : decide ((0 : Int) < (((j + 1 : Nat)) : Int)) = true := by first | (simp; done) | (simp; omega)
         have d4 := (show decide (lo ≤ L) = false by simp; omega)
         clear hcs hg hlo hhi hL hg' hplo h1 h2 h3 h4
         go_wp2_with fail
         go_quiet (fail)
         go_wp2_with fail
         go_roundw
         case rel => exact ⟨j + 1 + 1, hi, by go_num, hlt, HR2, HP, Below.drewN hbw.out _⟩
         case measure => simp [intOf]; omega
   ·obtain rfl : k = n := by omega
    have HY := hdL (show R = true by
     rw [hri.out, List.drop_eq_nil_of_le (by rw [← HN.out]; exact Nat.le_refl _)]; rfl)
    go_wp2_with fail
    go_ret
    exact ⟨by (rw [HY.out]; rfl), hbw.out⟩
 ·have h16' : 16 < (n : Int) := by omega
  have HRR := hdL (show R = false by rw [HR.out, decide_eq_false h16, Bool.and_false])
  go_wp2_with fail
  go_ret
  exact ⟨by (rw [HRR.out]; rfl), Below.refl _ _⟩
def verCmp (u v : Ver) : Int := if verLt u v then -1 else if u = v then 0 else 1
def pkCmpI (p q : Pk) : Int := if pkLt p q then -1 else if p = q then 0 else 1
theorem verCmp_lt {a b c a' b' c' : Int} (h : a < a' ∨ (a = a' ∧ (b < b' ∨ (b = b' ∧ c < c')))) : verCmp (a, b, c) (a', b', c') = -1 := by
 unfold verCmp
 rw [if_pos (show verLt _ _ = true from decide_eq_true h)]
theorem verCmp_gt {a b c a' b' c' : Int} (h : ¬ (a < a' ∨ (a = a' ∧ (b < b' ∨ (b = b' ∧ c < c'))))) (hn : ¬ (a = a' ∧ b = b' ∧ c = c')) : verCmp (a, b, c) (a', b', c') = 1 := by
 unfold verCmp
 rw [if_neg (by rw [show verLt (a, b, c) (a', b', c') = false from decide_eq_false h]; simp), if_neg (fun e => hn (by simpa using e))]
theorem verCmp_eq (u : Ver) : verCmp u u = 0 := by
 unfold verCmp
 rw [verLt_irr]
 simp
theorem rvcmp_any (w : World) (u v : Ver) : Calls Tryz.prog 75 #[.agg #[.int .i64 u.1, .int .i64 u.2.1, .int .i64 u.2.2], .agg #[.int .i64 v.1, .int .i64 v.2.1, .int .i64 v.2.2]] w (fun e w' => e = .returned (.int .i64 (verCmp u v)) ∧ Below w.heap.size w w') := by
 obtain ⟨a, b, c⟩ := u
 obtain ⟨a', b', c'⟩ := v
 dsimp only
 obtain ⟨R, hR⟩ : ∃ R, R = verCmp (a, b, c) (a', b', c') := ⟨_, rfl⟩
 rw [← hR]
 obtain ⟨w1, hw1, hb1, hx1, y1, y2⟩ := aBk w #[.int .i64 a, .int .i64 b, .int .i64 c] 39
 obtain ⟨w2, hw2, hb2, hx2, y3, y4⟩ := aBk w1 #[.int .i64 a', .int .i64 b', .int .i64 c'] 39
 have g1 := (hb2.block _ (by omega)).trans hx1
 obtain ⟨k0, k1, k2⟩ := cells3 g1
 obtain ⟨j0, j1, j2⟩ := cells3 hx2
 have HB := hdL (hb1.trans (hb2.mono hb1.size))
 have HLT := hdL (fun h => hR.trans (verCmp_lt h)); have HGT := hdL (fun h hn => hR.trans (verCmp_gt h hn))
 have HEQ := hdL (fun (h : a = a' ∧ b = b' ∧ c = c') => (by obtain ⟨rfl, rfl, rfl⟩ := h; exact hR.trans (verCmp_eq _) : R = 0))
 clear hx1 hx2 hb1 hb2 g1 hR
 go_enter Tryz.func75, Tryz.ntmps75
 go_wp2_with fail
 go_loopw [5] (fun x wr => ∃ k : Nat, x = .int .i64 k ∧ k ≤ 2 ∧ Hid (0 < k → a = a') ∧ Hid (1 < k → b = b') ∧ Hid (Below w2.heap.size w2 wr)) (fun x _ => 2 - (intOf x).toNat)
 case atStart => exact ⟨0, rfl, by omega, fun h => absurd h (by omega), fun h => absurd h (by omega), Below.refl _ _⟩
 case round =>
  obtain ⟨k, rfl, hk, h0, h1, hbw⟩ := hrel
  have k0 := bkp hbw.out _ _ k0
  have k1 := bkp hbw.out _ _ k1
  have k2 := bkp hbw.out _ _ k2
  have j0 := bkp hbw.out _ _ j0
  have j1 := bkp hbw.out _ _ j1
  have j2 := bkp hbw.out _ _ j2
  have H3 := hdL (HB.out.trans (hbw.out.mono HB.out.size))
  rcases (show k = 0 ∨ k = 1 ∨ k = 2 from by omega) with rfl | rfl | rfl
  ·by_cases e : a = a'
   ·have he : (a == a') = true := by simpa using e
    have H0 := hdL e
    clear e
    go_wp2_with fail
    go_quiet (fail)
    go_wp2_with fail
    go_roundw
    case rel => exact ⟨1, rfl, by omega, fun _ => H0.out, fun h => absurd h (by omega), Below.drewN hbw.out _⟩
    case measure => simp [intOf]
   ·have he : (a == a') = false := by simpa using e
    rcases (show a < a' ∨ (¬ a < a' ∧ a' < a) from by omega) with h | ⟨h, h'⟩
    ·obtain rfl := HLT.out (.inl h)
     clear e
     go_wp2_with fail
     go_quiet (fail)
     go_wp2_with fail
     go_quiet (fail)
     go_wp2_with fail
     go_ret
     exact ⟨rfl, by first | exact H3.out | exact Below.drewN H3.out _ | exact Below.drewN (Below.drewN H3.out _) _ | exact Below.drewN (Below.drewN (Below.drewN H3.out _) _) _⟩
    ·obtain rfl := HGT.out (by omega) (by omega)
     clear e
     go_wp2_with fail
     go_quiet (fail)
     go_wp2_with fail
     go_quiet (fail)
     go_wp2_with fail
     go_quiet (fail)
     go_wp2_with fail
     go_ret
     exact ⟨rfl, by first | exact H3.out | exact Below.drewN H3.out _ | exact Below.drewN (Below.drewN H3.out _) _ | exact Below.drewN (Below.drewN (Below.drewN H3.out _) _) _⟩
  ·have ea := h0.out (by omega)
   by_cases e : b = b'
   ·have he : (b == b') = true := by simpa using e
    have H1 := hdL e; have HA := hdL ea
    clear e ea
    go_wp2_with fail
    go_quiet (fail)
    go_wp2_with fail
    go_roundw
    case rel => exact ⟨2, rfl, by omega, fun _ => HA.out, fun _ => H1.out, Below.drewN hbw.out _⟩
    case measure => simp [intOf]
   ·have he : (b == b') = false := by simpa using e
    rcases (show b < b' ∨ (¬ b < b' ∧ b' < b) from by omega) with h | ⟨h, h'⟩
    ·obtain rfl := HLT.out (.inr ⟨ea, .inl h⟩)
     clear e ea
     go_wp2_with fail
     go_quiet (fail)
     go_wp2_with fail
     go_quiet (fail)
     go_wp2_with fail
     go_ret
     exact ⟨rfl, by first | exact H3.out | exact Below.drewN H3.out _ | exact Below.drewN (Below.drewN H3.out _) _ | exact Below.drewN (Below.drewN (Below.drewN H3.out _) _) _⟩
    ·obtain rfl := HGT.out (by omega) (by omega)
     clear e ea
     go_wp2_with fail
     go_quiet (fail)
     go_wp2_with fail
     go_quiet (fail)
     go_wp2_with fail
     go_quiet (fail)
     go_wp2_with fail
     go_ret
     exact ⟨rfl, by first | exact H3.out | exact Below.drewN H3.out _ | exact Below.drewN (Below.drewN H3.out _) _ | exact Below.drewN (Below.drewN (Below.drewN H3.out _) _) _⟩
  ·have ea := h0.out (by omega)
   have eb := h1.out (by omega)
   rcases (show c < c' ∨ (¬ c < c' ∧ c' < c) ∨ (¬ c < c' ∧ ¬ c' < c ∧ c = c') from by omega) with h | ⟨h, h'⟩ | ⟨h, h', e⟩
   ·obtain rfl := HLT.out (.inr ⟨ea, .inr ⟨eb, h⟩⟩)
    clear ea eb
    go_wp2_with fail
    go_quiet (fail)
    go_wp2_with fail
    go_quiet (fail)
    go_wp2_with fail
    go_ret
    exact ⟨rfl, by first | exact H3.out | exact Below.drewN H3.out _ | exact Below.drewN (Below.drewN H3.out _) _ | exact Below.drewN (Below.drewN (Below.drewN H3.out _) _) _⟩
   ·obtain rfl := HGT.out (by omega) (by omega)
    clear ea eb
    go_wp2_with fail
    go_quiet (fail)
    go_wp2_with fail
    go_quiet (fail)
    go_wp2_with fail
    go_quiet (fail)
    go_wp2_with fail
    go_ret
    exact ⟨rfl, by first | exact H3.out | exact Below.drewN H3.out _ | exact Below.drewN (Below.drewN H3.out _) _ | exact Below.drewN (Below.drewN (Below.drewN H3.out _) _) _⟩
   ·obtain rfl := HEQ.out ⟨ea, eb, e⟩
    clear ea eb e
    go_wp2_with fail
    go_quiet (fail)
    go_wp2_with fail
    go_quiet (fail)
    go_wp2_with fail
    go_quiet (fail)
    go_wp2_with fail
    go_ret
    exact ⟨rfl, by first | exact H3.out | exact Below.drewN H3.out _ | exact Below.drewN (Below.drewN H3.out _) _ | exact Below.drewN (Below.drewN (Below.drewN H3.out _) _) _⟩
theorem pkCmpI_name {p q : Pk} (h : p.1 = q.1) : pkCmpI p q = verCmp p.2 q.2 := by
 unfold pkCmpI verCmp pkLt
 rw [if_pos h]
 by_cases e : p.2 = q.2
 ·rw [if_pos e, if_pos (Prod.ext h e)]
 ·have e' : ¬ p = q := fun x => e (by rw [x])
  simp only [e, e', if_false]
theorem pkCmpI_less {p q : Pk} (h : p.1 ≠ q.1) : pkCmpI p q = if Op.bytesLess p.1 q.1 then -1 else 1 := by
 unfold pkCmpI pkLt
 rw [if_neg h]
 cases Op.bytesLess p.1 q.1
 ·rw [if_neg (by simp), if_neg (fun e => h (by rw [e])), if_neg (by simp)]
 ·rfl
theorem rpcmp_any (w : World) (p q : Pk) : Calls Tryz.prog 42 #[.agg #[strV p.1, .int .i64 p.2.1, .int .i64 p.2.2.1, .int .i64 p.2.2.2], .agg #[strV q.1, .int .i64 q.2.1, .int .i64 q.2.2.1, .int .i64 q.2.2.2]] w (fun e w' => e = .returned (.int .i64 (pkCmpI p q)) ∧ Below w.heap.size w w') := by
 obtain ⟨S, hS1, hS, -, -⟩ := strV_is p.1
 obtain ⟨T, hT1, hT, -, -⟩ := strV_is q.1
 have hv := fun W => rvcmp_any W p.2 q.2
 have hn1 := pkCmpI_name (p := p) (q := q)
 have hn2 := pkCmpI_less (p := p) (q := q)
 obtain ⟨R, hR⟩ : ∃ R, R = pkCmpI p q := ⟨_, rfl⟩
 rw [← hR] at hn1 hn2 ⊢
 rw [hS, hT]
 obtain ⟨pn, a, b, c⟩ := p
 obtain ⟨qn, a', b', c'⟩ := q
 dsimp only at hv hn1 hn2 hS1 hT1 ⊢
 obtain ⟨V, hV⟩ : ∃ V, V = verCmp (a, b, c) (a', b', c') := ⟨_, rfl⟩
 rw [← hV] at hv hn1
 obtain ⟨w1, hw1, hb1, hx1, y1, y2⟩ := aBk w #[.string S, .int .i64 a, .int .i64 b, .int .i64 c] 41
 obtain ⟨w2, hw2, hb2, hx2, y3, y4⟩ := aBk w1 #[.string T, .int .i64 a', .int .i64 b', .int .i64 c'] 41
 have g1 := (hb2.block _ (by omega)).trans hx1
 obtain ⟨k0, k1, k2, k3⟩ := cells4 g1
 obtain ⟨j0, j1, j2, j3⟩ := cells4 hx2
 have HB := hdL (hb1.trans (hb2.mono hb1.size)); have HV := hdL hv
 have HN1 := hdL hn1; have HN2 := hdL hn2
 have hST : S.toList = pn ∧ T.toList = qn := ⟨by rw [hS1, Lib.toList_data], by rw [hT1, Lib.toList_data]⟩
 have HST := hdL hST
 clear hx1 hx2 hb1 hb2 g1 hR hn1 hn2 hv hV hS1 hT1 hS hT hST
 by_cases e : S.toList = T.toList
 ·have he : (S.toList == T.toList) = true := by simpa using e
  have HR := hdL (HN1.out (by rw [← HST.out.1, ← HST.out.2]; exact e))
  clear e
  go_enter Tryz.func42, Tryz.ntmps42
  go_wp2_with fail
  refine (HV.out _).mono ?_
  rintro e w3 ⟨rfl, h3⟩
  have H3 := hdL (HB.out.trans (h3.mono HB.out.size))
  clear h3
  go_wp2_with fail
  go_ret
  exact ⟨by rw [HR.out]; rfl, H3.out⟩
 ·have he : (S.toList == T.toList) = false := by simpa using e
  have HR := hdL (HN2.out (by rw [← HST.out.1, ← HST.out.2]; exact e))
  rw [← HST.out.1, ← HST.out.2] at HR
  clear e
  cases hl : Op.bytesLess S.toList T.toList
  ·have HR := hdL (show R = 1 by have := HR.out; rw [hl] at this; simpa using this)
   go_enter Tryz.func42, Tryz.ntmps42
   go_wp2_with fail
   go_ret
   exact ⟨by rw [HR.out]; rfl, HB.out⟩
  ·have HR := hdL (show R = -1 by have := HR.out; rw [hl] at this; simpa using this)
   go_enter Tryz.func42, Tryz.ntmps42
   go_wp2_with fail
   go_ret
   exact ⟨by rw [HR.out]; rfl, HB.out⟩
end Go.Proofs.YtaagkndhgicifaaGreat
