/- DERIVED. The reference's Decode, walked. -/
import Derived.Test.YtjcimajkjnjdpabGreatDoorTreeRNode
import Derived.Test.YtjcimajkjnjdpabGreatDoorTreeDec
import Derived.Deep.RegionHeld3
namespace Go.Proofs.YtjcimajkjnjdpabGreatDoor
open Go.RowKit
set_option linter.unusedVariables false
set_option maxRecDepth 100000

theorem rtreeD_ok {s : List UInt8} {t : T} (h : decT s = .ok t) : decM (rtreeD s) = if t.kids.all twoB && (sameT t (nodeT (t.kids.map twoD)) && goodT (t.kids.map twoD)) then (0, t.kids.map twoD) else (5, []) := by
  unfold rtreeD
  rw [h]
  dsimp only
  split <;> rfl
theorem rtreeD_err {s : List UInt8} {f : Int} (h : decT s = .error f) : decM (rtreeD s) = (f, []) := by
  unfold rtreeD
  rw [h]
  rfl
theorem not_all {ks : List T} {i : Nat} {k : T} {P : T → Bool} (h : ks[i]? = some k) (hp : P k = false) : ks.all P = false := by
  rw [List.all_eq_false]
  exact ⟨k, List.mem_of_getElem? h, by rw [hp]; simp⟩
theorem twoD_two {t k0 k1 : T} (hk : t.kids = [k0, k1]) : twoD t = (k0.atom, k1.atom) := by
  obtain ⟨lf, a, ks⟩ := t
  simp only [T.kids] at hk
  subst hk
  rfl
theorem grow_keep {w w' w9 : World} {row : Option Nat} {g i : Nat} {u : Value} (hb : Below w.heap.size w w') (hg : w'.grownBy w9 row) (hl : g < w.heap.size) (hr : row ≠ some g) (h : w.cell? ⟨g, i, none⟩ = some u) : w9.cell? ⟨g, i, none⟩ = some u :=
  (World.cell?_of_block (a := ⟨g, i, none⟩) (hg.block g (by have := hb.size; omega) (fun e => hr e.symm))).trans (below_keeps hb _ _ h)
/-- What a round leaves. -/
def RdSt (w3 w4 : World) (B4 m : Nat) (ms : List Pr) (W : World) : Prop := ∃ (a' : Option Addr) (c' : Nat), W.ownsRow w4.heap.size 35 2 (.slice a' m c') m (pairsV ms) ∧ W.heap[B4]? = some (.cells #[.slice a' m c'] 24 (0, 0)) ∧ Below w3.heap.size w3 W ∧ w4.heap.size ≤ W.heap.size
theorem rdSt_step {w3 w4 w8 w9 : World} {B4 k c8 c' : Nat} {a8 a' : Option Addr} {L : List Pr} {p : Pr} {P Q : ByteArray} (h1 : B4 < w4.heap.size) (h2 : w3.heap.size = B4) (hP : P = ⟨p.1.toArray⟩) (hQ : Q = ⟨p.2.toArray⟩)
    (ho : w8.ownsRow w4.heap.size 35 2 (.slice a8 k c8) k (pairsV L)) (hb : Below w3.heap.size w3 w8) (hz : w4.heap.size ≤ w8.heap.size)
    (hown : w9.ownsRow w4.heap.size 35 2 (.slice a' (k + 1) c') (k + 1) (pairsV L ++ [.string P, .string Q])) (hg : w8.grownBy w9 (Value.slice a8 k c8).ownBlock) (hc : w9.heap[B4]? = some (.cells #[.slice a8 k c8] 24 (0, 0))) :
    RdSt w3 w4 B4 (k + 1) (L ++ [p]) (w9.setCell ⟨B4, 0, none⟩ (.slice a' (k + 1) c')) := by
  have hset : ∀ g, g ≠ B4 → (w9.setCell ⟨B4, 0, none⟩ (.slice a' (k + 1) c')).heap[g]? = w9.heap[g]? := fun g hg => Below.heap_setCell _ _ _ _ (by simpa using hg)
  refine ⟨a', c', ownsRow_keep (pair_snoc (g := p) hown hP hQ) (fun g hg => hset g (by have := owns_ge hown g hg; omega)), heap_setCell_here (i := 0) (.slice a' (k + 1) c') hc, ?_, ?_⟩
  · exact (below_grown hb hg (fun g hg => by have := owns_ge ho g hg; omega)).setCell (p := ⟨B4, 0, none⟩) (by show w3.heap.size ≤ B4; omega) (.slice a' (k + 1) c')
  · have := hg.size
    simp only [World.setCell, Array.size_modify]
    omega
set_option maxHeartbeats 16000000 in
theorem rtdec_any (w : World) (S : ByteArray) (hSm : S.size ≤ 140737488351232) : Calls Tryz.prog 11 #[.string S] w (MakeTo w (decM (rtreeD S.data.toList))) := by
  obtain ⟨w1, hw1, hb1, hx1, hz1, hz2⟩ := new_cell w (.slice none 0 0) 24
  obtain ⟨b, hbe⟩ : ∃ b, w.heap.size = b := ⟨_, rfl⟩
  have hD := rdec_any w1 S hSm
  obtain ⟨X, hX⟩ : ∃ X, X = decM (rtreeD S.data.toList) := ⟨_, rfl⟩
  rw [← hX]
  have hout : ∀ x W, X = (x, []) → Below w1.heap.size w1 W → ∀ v, MakeTo w X (.returned (.tuple #[.agg #[.slice none 0 0], .int .i64 x])) (W.setCell ⟨b, 0, none⟩ v) := by
    intro x W hx hW v
    rw [hx]
    exact makeTo_err w _ x ((hb1.trans (hW.mono hb1.size)).setCell (p := ⟨b, 0, none⟩) (by show w.heap.size ≤ b; omega) v)
  rw [hbe] at hx1
  have hsize : b < w1.heap.size ∧ w.heap.size ≤ w1.heap.size ∧ w.heap.size ≤ b := by omega
  have hkeep : ∀ W, Below w1.heap.size w1 W → W.heap[b]? = some (.cells #[.slice none 0 0] 24 (0, 0)) := fun W h => (h.block _ hsize.1).trans hx1
  have HB := Lib.hid hb1; have HX := Lib.hid hX; have HOUT := Lib.hid hout; have HKEEP := Lib.hid hkeep; have HSIZE := Lib.hid hsize
  clear hb1 hX hout hkeep hsize hx1 hz1 hz2
  cases hd : decT S.data.toList with
  | error f =>
    have HE := Lib.hid (HX.out.trans (rtreeD_err hd))
    have hf := decT_errs hd
    rw [hd] at hD
    unfold DecTo at hD
    have hf2 : (f != 0) = true := by rcases hf with rfl | rfl | rfl <;> decide
    have HD := Lib.hid hD
    clear hf hd hD
    go_enter Tryz.func11, Tryz.ntmps11
    go_wp2_with fail
    refine HD.out.mono ?_
    rintro e w2 ⟨rfl, h2⟩
    obtain ⟨w3, hw3, hb3, hx3, _, _⟩ := new_n w2 #[.bool false, .string ⟨#[]⟩, .slice none 0 0] 50
    have H3 := Lib.hid (h2.trans (hb3.mono h2.size))
    have hq := HKEEP.out w3 H3.out
    have q0 := cell_of_heap hq 0
    have qf := frozen_of_heap hq
    subst hw3
    clear h2 hb3 hx3 hq
    go_wp2_with fail
    refine bodyPost_ret (v := .tuple #[.agg #[.slice none 0 0], .int .i64 f]) (by simp [results, Tryz.results11, go_sem, q0]) rfl ?_
    exact HOUT.out _ _ HE.out H3.out _
  | ok t =>
    have hE := HX.out.trans (rtreeD_ok hd)
    have hsz := dec_sizes hd
    rw [hd] at hD
    unfold DecTo at hD
    have HD := Lib.hid hD; have HE := Lib.hid hE
    obtain ⟨n, hnn⟩ : ∃ n, n = t.kids.length := ⟨_, rfl⟩
    obtain ⟨lf, hlf⟩ : ∃ b, b = t.leaf := ⟨_, rfl⟩
    obtain ⟨S1, hS1⟩ : ∃ S : ByteArray, strV t.atom = .string S := ⟨_, rfl⟩
    have hn64 : n ≤ 65536 := by rw [hnn]; exact hsz.1
    obtain ⟨i0, hi, hzz0, hzz1, hzz2⟩ := info_three infoFile
    have HI := Lib.hid (And.intro hi (And.intro hzz0 (And.intro hzz1 hzz2)))
    have HN := Lib.hid hnn; have HLF := Lib.hid hlf; have HS1 := Lib.hid hS1; have HSZ := Lib.hid hsz.2
    clear hd hD hE hsz hnn hlf hS1 hi hzz0 hzz1 hzz2
    go_enter Tryz.func11, Tryz.ntmps11
    go_wp2_with fail
    refine HD.out.mono ?_
    rintro e w2 ⟨v0, v1, v2, G, rfl, h2, hm⟩
    obtain ⟨rfl, rfl, ha, hk, a, c, rfl, hlc, hcm, hkids⟩ := (NodeG.at _ _ _ _ _ hm.node).open
    have hnode := NodeG.at _ _ _ _ _ hm.node
    rw [HS1.out, ← HN.out, ← HLF.out] at hnode
    rw [HS1.out, ← HN.out, ← HLF.out]
    obtain ⟨w3, hw3, hb3, hx3, z1, z2⟩ := new_n w2 #[.bool lf, .string S1, .slice a n c] 50
    obtain ⟨w4, hw4, hb4, hx4, z3, z4⟩ := new_cell w3 (.slice none 0 0) 24
    have hx34 := (hb4.block _ (by omega)).trans hx3
    have HB3 := Lib.hid (h2.trans (hb3.mono h2.size))
    have HB4 := Lib.hid (HB3.out.trans (hb4.mono HB3.out.size))
    have h24 := hb3.trans (hb4.mono hb3.size)
    have HK := Lib.hid (KidsIn.below hkids hb3)
    have HNODE := Lib.hid (fun W (hW : Below w3.heap.size w3 W) => hnode.below (hb3.trans (hW.mono hb3.size)))
    obtain ⟨B4, hB4⟩ : ∃ B, B = w3.heap.size := ⟨_, rfl⟩
    obtain ⟨B3, hB3⟩ : ∃ B, B = w2.heap.size := ⟨_, rfl⟩
    have p0 := cell_of_heap hx34 0
    have p2 := cell_of_heap hx34 2
    rw [← hw4] at p0 p2
    rw [← hB4] at hx4
    rw [← hB3] at hx3
    have HBB := Lib.hid (show w1.heap.size ≤ B4 ∧ B4 < w4.heap.size ∧ w3.heap.size = B4 ∧ B3 < B4 by have := HB3.out.size; omega)
    have HX3 := Lib.hid hx3; have HB34 := Lib.hid hb4
    have HX4 := Lib.hid hx4; have HW4 := Lib.hid hw4; have HB4' := Lib.hid hB4; have HB3' := Lib.hid hB3
    clear hw4 hx4 hb4 hb3 hx3 z1 z2 z3 z4 hx34 h2 h24 ha hk hkids hm hB4 hB3 hlc hcm hnode
    go_wp2_with fail
    rw [HW4.out, ← HB4'.out, ← HB3'.out]
    clear p0 p2
    go_loopw [22] (fun x wr => ∃ (k : Nat) (a8 : Option Addr) (c8 : Nat), x = .int .i64 k ∧ k ≤ n ∧ Hid ((t.kids.take k).all twoB = true) ∧ Hid (wr.ownsRow w4.heap.size 35 2 (.slice a8 k c8) k (pairsV ((t.kids.take k).map twoD))) ∧ Hid (wr.heap[B4]? = some (.cells #[.slice a8 k c8] 24 (0, 0))) ∧ Hid (Below w3.heap.size w3 wr) ∧ Hid (w4.heap.size ≤ wr.heap.size)) (fun x _ => n - (intOf x).toNat)
    case atStart => exact ⟨0, none, 0, rfl, Nat.zero_le _, (by simp [Hid]), World.ownsRow_nil _ _ _ _, HX4, HB34, Nat.le_refl _⟩
    case round =>
      obtain ⟨k, a8, c8, rfl, hkn, hall, hown, hcell, hbr, hsz8⟩ := hrel
      by_cases hlt : k < n
      · obtain ⟨kk, hkk⟩ : ∃ kk, t.kids[k]? = some kk := ⟨_, List.getElem?_eq_getElem (by rw [← HN.out]; exact hlt)⟩
        obtain ⟨bk, o, u0, u1, u2, rfl, c0, c1, c2, hnk⟩ := HK.out k kk hkk
        obtain ⟨rfl, rfl, _, _, ak, ck, rfl, hml, hmx, hkd⟩ := hnk.open
        have c0 := below_keeps hbr.out _ _ c0
        have c1 := below_keeps hbr.out _ _ c1
        have c2 := below_keeps hbr.out _ _ c2
        obtain ⟨l, hl⟩ : ∃ l, kk.leaf = l := ⟨_, rfl⟩
        obtain ⟨A, hA⟩ : ∃ A : ByteArray, strV kk.atom = .string A := ⟨_, rfl⟩
        obtain ⟨m, hm⟩ : ∃ m, kk.kids.length = m := ⟨_, rfl⟩
        rw [hl] at c0; rw [hA] at c1; rw [hm] at c2
        obtain ⟨w5, hw5, hb5, hx5, z1, z2⟩ := new_n wr #[.bool l, .string A, .slice ak m ck] 50
        have hkd5 : KidsIn w5 ak kk.kids := KidsIn.below (KidsIn.below hkd hbr.out) hb5
        have f0 := cell_of_heap hx5 0
        have f1 := cell_of_heap hx5 1
        have f2 := cell_of_heap hx5 2
        have HKK := Lib.hid hkk
        have HB5 := Lib.hid (hbr.out.trans (hb5.mono hbr.out.size))
        have HO5 := Lib.hid (ownsRow_keep hown.out (fun g hg => hb5.block g (owns_lt hown.out g hg)))
        have HC5 := Lib.hid ((hb5.block _ (lt_of_heap hcell.out)).trans hcell.out)
        have HZ5 := Lib.hid (Nat.le_trans hsz8.out hb5.size)
        have hb1r := HB3.out.trans (HB5.out.mono HB3.out.size)
        have hqq := HKEEP.out w5 hb1r
        have HBR := Lib.hid hb1r
        have hmll : m ≤ 140737488351232 := by omega
        by_cases hm2 : m = 2
        · have hk2 : kk.kids.length = 2 := by omega
          obtain ⟨k0, k1, hk01⟩ := kids_two hk2
          obtain ⟨b0, o0, v0, v1, v2, rfl, e0, e1, _, hn0⟩ := hkd5 0 k0 (by rw [hk01]; rfl)
          obtain ⟨b0', o0', v0', v1', v2', e, e3, e4, _, hn1⟩ := hkd5 1 k1 (by rw [hk01]; rfl)
          obtain ⟨rfl, rfl⟩ : b0 = b0' ∧ o0 = o0' := by
            have e2 := Option.some.inj e
            injection e2 with e3 e4
            exact ⟨e3, e4⟩
          have hb0 : b0 < w3.heap.size := by
            obtain ⟨b1, o1, _, _, _, e', x0, _⟩ := hkd 0 k0 (by rw [hk01]; rfl)
            injection e' with e'
            injection e' with e' _
            rw [e']
            exact cell_lt x0
          obtain ⟨rfl, rfl, _⟩ := hn0.open
          obtain ⟨rfl, rfl, _⟩ := hn1.open
          have htd := twoD_two hk01
          have htb : twoB kk = true := by unfold twoB; simpa using hk2
          obtain ⟨P, hP⟩ : ∃ A : ByteArray, A = ⟨(twoD kk).1.toArray⟩ := ⟨_, rfl⟩
          obtain ⟨Q, hQ⟩ : ∃ A : ByteArray, A = ⟨(twoD kk).2.toArray⟩ := ⟨_, rfl⟩
          rw [show strV k0.atom = .string P by rw [hP, htd]; rfl] at e1
          rw [show strV k1.atom = .string Q by rw [hQ, htd]; rfl] at e4
          rw [Nat.zero_mul, Nat.add_zero] at e1
          rw [Nat.one_mul] at e4
          subst hm2
          have HP := Lib.hid hP; have HQ := Lib.hid hQ; have HTB := Lib.hid htb
          have g0 := cell_of_heap HC5.out 0
          have g1 : (w5.alloc (.cells #[.string P, .string Q] 35)).cell? ⟨B4, 0, none⟩ = some (.slice a8 k c8) := cell_of_heap ((Below.heap_alloc w5 _ B4 (lt_of_heap HC5.out)).trans HC5.out) 0
          have g0 := cell_of_heap HC5.out 0
          have g1 : (w5.alloc (.cells #[.string P, .string Q] 35)).cell? ⟨B4, 0, none⟩ = some (.slice a8 k c8) := cell_of_heap ((Below.heap_alloc w5 _ B4 (lt_of_heap HC5.out)).trans HC5.out) 0
          have HSRC := Lib.hid (show Src Tryz.prog 2 22 (.slice (some ⟨w5.heap.size, 0, none⟩) 1 1) 1 [.string P, .string Q] ((w5.alloc (.cells #[.string P, .string Q] 35)).drew) from pr_src (w := (w5.alloc (.cells #[.string P, .string Q] 35)).drew) (heap_alloc_new w5 (.cells #[.string P, .string Q] 35)) rfl rfl)
          have hb58 : Below w5.heap.size w5 ((w5.alloc (.cells #[.string P, .string Q] 35)).drew) := ((Below.refl _ w5).alloc (Nat.le_refl _) _).drew
          have HO8 := Lib.hid (ownsRow_keep HO5.out (fun g hg => hb58.block g (owns_lt HO5.out g hg)))
          have HC8 := Lib.hid ((hb58.block _ (lt_of_heap HC5.out)).trans HC5.out)
          have HB8 := Lib.hid (HB5.out.trans (hb58.mono HB5.out.size))
          have HZ8 := Lib.hid (Nat.le_trans HZ5.out hb58.size)
          have HBW := Lib.hid (show (wr.heap.size < w5.heap.size ∧ (Value.slice a8 k c8).ownBlock ≠ some wr.heap.size) ∧ b0 < w5.heap.size ∧ (Value.slice a8 k c8).ownBlock ≠ some b0 from ⟨⟨by omega, fun e => by have := owns_lt hown.out _ e; omega⟩, by have := HB5.out.size; omega, fun e => by have := owns_ge hown.out _ e; have := HBB.out; omega⟩)
          have HB58 := Lib.hid hb58
          have hn1 : B4 ≠ wr.heap.size := by have := lt_of_heap hcell.out; omega
          have hn2 : B4 ≠ b0 := by have := HBB.out; omega
          have HOK := Lib.hid (show (t.kids.take (k + 1)).all twoB = true by rw [allT_next twoB HKK.out, hall.out, htb]; rfl)
          clear hb58 hkk hnk hkd hkd5 hml hmx hk2 hk01 hn0 hn1 htd htb hP hQ hl hA hm hb5 hx5 hb0 z1 z2 hown hcell hbr hsz8 hall hb1r hqq e e0 e3 hmll
          go_upto_region 10 with fail
          clear hn1 hn2 HBW HB58 HD HE HSZ HOUT HKEEP HX HB HSIZE HNODE HX3 HX4 HK HLF HS1 HB3 HB4 HBR f0 f1 c0 c1 c2
          go_region_law (first | (refine step_append_srcs rfl (.tmp 32) (.tmp 44) 22 22 rfl w4.heap.size 35 i0 _ 2 32 Tryz.underlying22 HI.out.1 HI.out.2.1 HI.out.2.2.1 HI.out.2.2.2 rfl (by decide) _ (by first | (simp [Act.eval]; done) | (simp [Act.eval, Act.put]; done)) k _ HO8.out _ (by first | (simp [Act.eval]; done) | (simp [Act.eval, Act.put]; done)) _ _ HSRC.out (by unfold maxLen; omega) (by omega) HZ8.out ?_; intro a' c' w9 hown9 hgrow _ hblk; have HNEXT := Lib.hid hown9; have HGROW := Lib.hid hgrow; have hc9 : w9.heap[B4]? = some (.cells #[.slice a8 k c8] 24 (0, 0)) := (hgrow.block B4 (lt_of_heap HC8.out) (fun e => by have := owns_ge HO8.out B4 e.symm; have := HBB.out.2.1; omega)).trans HC8.out; have y0 := cell_of_heap hc9 0; have yf := frozen_of_heap hc9; have HC9 := Lib.hid hc9; clear hown9 hgrow hblk hc9))
          all_goals
            have hst : RdSt w3 w4 B4 (k + 1) ((t.kids.take k).map twoD ++ [twoD kk]) (w9.setCell ⟨B4, 0, none⟩ (.slice a' (k + 1) c')) := rdSt_step HBB.out.2.1 HBB.out.2.2.1 HP.out HQ.out HO8.out HB8.out HZ8.out HNEXT.out HGROW.out HC9.out
            obtain ⟨a9, c9, s1, s2, s3, s4⟩ := hst
            obtain ⟨rfl, rfl⟩ : a' = a9 ∧ c' = c9 := by
              rw [heap_setCell_here (i := 0) (.slice a' (k + 1) c') HC9.out] at s2
              simpa using s2
            have S1' := Lib.hid s1; have S2' := Lib.hid s2; have S3' := Lib.hid s3; have S4' := Lib.hid s4
            clear s1 s2 s3 s4 g0 g1 f2 e1 e4
            go_wp2_with fail
            go_roundw
            case rel => exact ⟨k + 1, a', c', by go_num, hlt, HOK, by rw [maps_next twoD HKK.out]; exact S1', S2', S3', S4'⟩
            case measure => simp [intOf]; omega
        · have HE5 := Lib.hid (show X = (5, []) by rw [HE.out, not_all HKK.out (show twoB kk = false by unfold twoB; rw [hm]; simpa using hm2), Bool.false_and]; rfl)
          have hm3 : ((m : Int) != 2) = true := by simp; omega
          have q0 := cell_of_heap hqq 0
          have qf := frozen_of_heap hqq
          clear hkk hnk hkd hkd5 hml hmx hl hA hm hb5 hx5 z1 z2 hown hcell hbr hsz8 hall hb1r hqq hm2
          go_wp2_with fail
          refine bodyPost_ret (v := .tuple #[.agg #[.slice none 0 0], .int .i64 5]) (by simp [results, Tryz.results11, go_sem, q0]) rfl ?_
          exact HOUT.out _ _ HE5.out HBR.out _
      · obtain rfl : k = n := by omega
        have ho := hown.out
        have hal := hall.out
        rw [List.take_of_length_le (by rw [← HN.out]; exact Nat.le_refl _)] at ho hal
        obtain ⟨rs, hrs⟩ : ∃ rs, rs = t.kids.map twoD := ⟨_, rfl⟩
        have hE := HE.out
        rw [hal, Bool.true_and] at hE
        rw [← hrs] at ho hE
        have hkl : k = rs.length := by rw [hrs, List.length_map]; exact HN.out
        have hszr : ∀ p ∈ rs, p.1.length ≤ 400000 ∧ p.2.length ≤ 400000 := fun p hp => by
          rw [hrs] at hp
          obtain ⟨x, hx, rfl⟩ := List.mem_map.1 hp
          have := HSZ.out x hx
          omega
        have HKL := Lib.hid hkl
        have hrow := owns_rowAt (show OwnFl wr w4.heap.size a8 c8 rs by unfold OwnFl; rw [← hkl]; exact ho)
        have HROW := Lib.hid hrow
        have hb1r := HB3.out.trans (hbr.out.mono HB3.out.size)
        have HBR := Lib.hid hb1r; have HEE := Lib.hid hE
        have hG := fun W (h : Below wr.heap.size wr W) => rtgood_any W a8 c8 rs (hrow.rd.below h) (by omega) (fun p hp => (hszr p hp).1)
        have hND := fun W (h : Below wr.heap.size wr W) => refnode_any W a8 c8 rs (hrow.rd.below h) (by omega) hszr
        unfold TNodeTo at hND
        rw [← hkl] at hG hND
        have HG := Lib.hid hG; have HND := Lib.hid hND; have HC := hcell
        have hc3 := (hbr.out.block B3 (by have := HBB.out; omega)).trans HX3.out
        have HC3 := Lib.hid hc3
        have HNR := Lib.hid (HNODE.out wr hbr.out)
        have m0 := cell_of_heap hc3 0
        have m1 := cell_of_heap hc3 1
        have m2 := cell_of_heap hc3 2
        have g0 := cell_of_heap hcell.out 0
        clear ho hal hrs hE hkl hszr hrow hb1r hG hND hown hcell hall hc3
        go_wp2_with fail
        go_upto_region 12 with fail
        clear HK HX4 HX3 HW4 HB34 HI HSZ HNODE HD
        cases hs : sameT t (nodeT rs)
        · have HE5 := Lib.hid (show X = (5, []) by rw [HEE.out, hs, Bool.false_and]; rfl)
          have HSM := Lib.hid hs
          clear hs
          go_region_law (first | (go_simp; go_at_call 25; refine (HND.out _ ((Below.refl _ _).drew)).mono ?_; rintro e wN ⟨aN, cN, rfl, hN, hbN⟩; have HBN := Lib.hid ((Below.refl wr.heap.size wr).drew.trans hbN); have HNN := Lib.hid hN; have hc4 := (HBN.out.block _ (lt_of_heap HC3.out)).trans HC3.out; have n0 := cell_of_heap hc4 0; have n1 := cell_of_heap hc4 1; have n2 := cell_of_heap hc4 2; have HCN := Lib.hid ((HBN.out.block _ (lt_of_heap HC.out)).trans HC.out); clear hN hbN hc4) | (go_simp; go_at_call 29; refine (nsame_any _ t (nodeT rs) (Nat.le_refl _) _ _ _ _ _ _ _ (HNR.out.below HBN.out) HNN.out).mono ?_; rw [HSM.out]; rintro e wS ⟨rfl, hbS⟩; have HBS := Lib.hid (HBN.out.trans (hbS.mono HBN.out.size)); have hcS := (hbS.block _ (lt_of_heap HCN.out)).trans HCN.out; have s0 := cell_of_heap hcS 0; have HCS := Lib.hid hcS; clear hbS hcS))
          all_goals
            have HBW := Lib.hid (HBR.out.trans (HBS.out.mono HBR.out.size))
            have hqq := HKEEP.out wS HBW.out
            have q0 := cell_of_heap hqq 0
            have qf := frozen_of_heap hqq
            clear hqq
            go_wp2_with fail
            refine bodyPost_ret (v := .tuple #[.agg #[.slice none 0 0], .int .i64 5]) (by simp [results, Tryz.results11, go_sem, q0]) rfl ?_
            exact HOUT.out _ _ HE5.out HBW.out _
        · have HSM := Lib.hid hs
          cases hg : goodT rs
          · have HE5 := Lib.hid (show X = (5, []) by rw [HEE.out, hs, hg]; rfl)
            have HGG := Lib.hid hg
            clear hs hg
            go_region_law (first | (go_simp; go_at_call 25; refine (HND.out _ ((Below.refl _ _).drew)).mono ?_; rintro e wN ⟨aN, cN, rfl, hN, hbN⟩; have HBN := Lib.hid ((Below.refl wr.heap.size wr).drew.trans hbN); have HNN := Lib.hid hN; have hc4 := (HBN.out.block _ (lt_of_heap HC3.out)).trans HC3.out; have n0 := cell_of_heap hc4 0; have n1 := cell_of_heap hc4 1; have n2 := cell_of_heap hc4 2; have HCN := Lib.hid ((HBN.out.block _ (lt_of_heap HC.out)).trans HC.out); clear hN hbN hc4) | (go_simp; go_at_call 29; refine (nsame_any _ t (nodeT rs) (Nat.le_refl _) _ _ _ _ _ _ _ (HNR.out.below HBN.out) HNN.out).mono ?_; rw [HSM.out]; rintro e wS ⟨rfl, hbS⟩; have HBS := Lib.hid (HBN.out.trans (hbS.mono HBN.out.size)); have hcS := (hbS.block _ (lt_of_heap HCN.out)).trans HCN.out; have s0 := cell_of_heap hcS 0; have HCS := Lib.hid hcS; clear hbS hcS) | (go_simp; go_at_call 15; refine (HG.out _ HBS.out).mono ?_; rw [HGG.out]; rintro e wG ⟨rfl, hbG⟩; have HBG := Lib.hid (HBS.out.trans (hbG.mono HBS.out.size)); have hcG := (hbG.block _ (lt_of_heap HCS.out)).trans HCS.out; have t0 := cell_of_heap hcG 0; clear hbG hcG))
            all_goals
              have HBW := Lib.hid (HBR.out.trans (HBG.out.mono HBR.out.size))
              have hqq := HKEEP.out wG HBW.out
              have q0 := cell_of_heap hqq 0
              have qf := frozen_of_heap hqq
              clear hqq
              go_wp2_with fail
              refine bodyPost_ret (v := .tuple #[.agg #[.slice none 0 0], .int .i64 5]) (by simp [results, Tryz.results11, go_sem, q0]) rfl ?_
              exact HOUT.out _ _ HE5.out HBW.out _
          · have HE5 := Lib.hid (show X = (0, rs) by rw [HEE.out, hs, hg]; rfl)
            have HGG := Lib.hid hg
            clear hs hg
            go_region_law (first | (go_simp; go_at_call 25; refine (HND.out _ ((Below.refl _ _).drew)).mono ?_; rintro e wN ⟨aN, cN, rfl, hN, hbN⟩; have HBN := Lib.hid ((Below.refl wr.heap.size wr).drew.trans hbN); have HNN := Lib.hid hN; have hc4 := (HBN.out.block _ (lt_of_heap HC3.out)).trans HC3.out; have n0 := cell_of_heap hc4 0; have n1 := cell_of_heap hc4 1; have n2 := cell_of_heap hc4 2; have HCN := Lib.hid ((HBN.out.block _ (lt_of_heap HC.out)).trans HC.out); clear hN hbN hc4) | (go_simp; go_at_call 29; refine (nsame_any _ t (nodeT rs) (Nat.le_refl _) _ _ _ _ _ _ _ (HNR.out.below HBN.out) HNN.out).mono ?_; rw [HSM.out]; rintro e wS ⟨rfl, hbS⟩; have HBS := Lib.hid (HBN.out.trans (hbS.mono HBN.out.size)); have hcS := (hbS.block _ (lt_of_heap HCN.out)).trans HCN.out; have s0 := cell_of_heap hcS 0; have HCS := Lib.hid hcS; clear hbS hcS) | (go_simp; go_at_call 15; refine (HG.out _ HBS.out).mono ?_; rw [HGG.out]; rintro e wG ⟨rfl, hbG⟩; have HBG := Lib.hid (HBS.out.trans (hbG.mono HBS.out.size)); have hcG := (hbG.block _ (lt_of_heap HCS.out)).trans HCS.out; have t0 := cell_of_heap hcG 0; clear hbG hcG))
            all_goals
              have HBW := Lib.hid (HBR.out.trans (HBG.out.mono HBR.out.size))
              have hqq := HKEEP.out wG HBW.out
              have q0 := cell_of_heap hqq 0
              have qf := frozen_of_heap hqq
              have hfin : ∀ v, RowAt (wG.setCell ⟨b, 0, none⟩ v) w.heap.size a8 c8 rs ∧ Below w.heap.size w (wG.setCell ⟨b, 0, none⟩ v) := by
                intro v
                obtain ⟨z1, z2, z3⟩ := HSIZE.out
                obtain ⟨z6, z7, z8, _⟩ := HBB.out
                exact ⟨((HROW.out.below HBG.out).keep (fun g hg _ => Below.heap_setCell _ _ _ _ (by simp; omega))).base (by omega), (HB.out.trans (HBW.out.mono HB.out.size)).setCell (p := ⟨b, 0, none⟩) z3 v⟩
              have HFIN := Lib.hid hfin
              clear hqq hfin
              go_wp2_with fail
              refine bodyPost_ret (v := .tuple #[.agg #[.slice a8 k c8], .int .i64 0]) (by simp [results, Tryz.results11, go_sem, q0]) rfl ?_
              rw [HE5.out]
              exact ⟨a8, c8, by rw [show k = rs.length from HKL.out], (HFIN.out _).1, (HFIN.out _).2⟩
end Go.Proofs.YtjcimajkjnjdpabGreatDoor
