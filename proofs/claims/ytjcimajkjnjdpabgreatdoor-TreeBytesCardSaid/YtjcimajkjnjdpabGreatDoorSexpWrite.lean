/- DERIVED. The writer's node. -/
import Derived.Test.YtjcimajkjnjdpabGreatDoorSexpPut
import Derived.Lib.ItoaLen
import Derived.Deep.CutBlock
import Derived.Deep.DeepCutAuto
import Derived.Deep.RegionHeld3
namespace Go.Proofs.YtjcimajkjnjdpabGreatDoor
open Go.RowKit
set_option linter.unusedVariables false
set_option maxRecDepth 100000

theorem WrAt.keep {W : Nat} {v : Value} {b : List UInt8} {f : Int} {w w' : World} (h : WrAt W v b f w) (hb : Below w.heap.size w w') : WrAt W v b f w' :=
  ⟨(hb.block W (lt_of_heap h.1)).trans h.1, ownsRow_keep h.2.1 (fun g hg => hb.block g (owns_lt h.2.1 g hg)), h.2.2⟩
theorem WrTo.after {W : Nat} {v : Value} {f : Int} {P : List UInt8 → Prop} {w w1 w' : World} (hb : Below w.heap.size w w1) (h : WrTo w1 W v f P w') : WrTo w W v f P w' := by
  obtain ⟨v', b', h1, h2, h3, h4⟩ := h
  exact ⟨v', b', h1, h2, (Ch.of_below hb (wFoot W v)).trans h3 (fun x hx => .inl hx), fun g hg => (h4 g hg).imp id (fun h => Nat.le_trans hb.size h)⟩
theorem WrTo.trans {W : Nat} {v v1 : Value} {f : Int} {P : List UInt8 → Prop} {w w1 w' : World} (hc : Ch (wFoot W v) w w1) (hf : ∀ g ∈ wFoot W v1, g ∈ wFoot W v ∨ w.heap.size ≤ g) (h : WrTo w1 W v1 f P w') : WrTo w W v f P w' := by
  obtain ⟨v', b', h1, h2, h3, h4⟩ := h
  refine ⟨v', b', h1, h2, hc.trans h3 hf, fun g hg => ?_⟩
  rcases h4 g hg with h | h
  · exact hf g h
  · exact .inr (Nat.le_trans hc.size h)
/-- The writer with a fault laid in. -/
theorem WrAt.fault {W : Nat} {v : Value} {b : List UInt8} {w : World} (h : WrAt W v b 0 w) (e : Int) : WrTo w W v e (fun _ => True) (w.setCell ⟨W, 1, none⟩ (.int .i64 e)) := by
  obtain ⟨h1, h2, h3⟩ := h
  exact ⟨v, b, trivial, ⟨heap_setCell_here (i := 1) (.int .i64 e) h1, ownsRow_setCell_other h2 (a := ⟨W, 1, none⟩) (fun e => h3 e) _, h3⟩, (Ch.refl _ w).setCell (p := ⟨W, 1, none⟩) (.inl (List.mem_cons_self ..)) _, fun g hg => .inl hg⟩
theorem WrTo.drew {W : Nat} {v : Value} {f : Int} {P : List UInt8 → Prop} {w w' : World} (h : WrTo w W v f P w') : WrTo w W v f P w'.drew := by
  obtain ⟨v', b', h1, h2, h3, h4⟩ := h
  exact ⟨v', b', h1, h2, h3.drew, h4⟩
def NodeTo (w : World) (W : Nat) (v : Value) : Except Int (List UInt8) → World → Prop
  | .ok c, w' => WrTo w W v 0 (fun b' => b' = c) w'
  | .error e, w' => WrTo w W v e (fun _ => True) w'
theorem WrAt.cells {W : Nat} {v : Value} {b : List UInt8} {f : Int} {w : World} (h : WrAt W v b f w) : w.cell? ⟨W, 0, none⟩ = some v ∧ w.cell? ⟨W, 1, none⟩ = some (.int .i64 f) ∧ ∀ i, w.frozen? ⟨W, i, none⟩ = false :=
  ⟨cell_of_heap h.1 0, cell_of_heap h.1 1, frozen_of_heap h.1⟩
set_option maxRecDepth 100000 in
set_option maxHeartbeats 4000000 in
theorem wnode_any : ∀ (m : Nat) (t : T), SizeOf.sizeOf t ≤ m → ∀ (w0 w : World) (W : Nat) (v v0 v1 v2 : Value) (b : List UInt8) (d : Nat), NodeAt w0 t v0 v1 v2 → Tab w0 → Below w0.heap.size w0 w → (∀ g ∈ wFoot W v, w0.heap.size ≤ g) → WrAt W v b 0 w → b.length ≤ 65536 → d ≤ 32 →
    Calls Tryz.prog 51 #[.pointer (some ⟨W, 0, none⟩), .agg #[v0, v1, v2], .int .i64 d] w (fun e w' => e = .returned (.tuple #[]) ∧ NodeTo w W v (putT d b t) w') := by
  intro m
  induction m with
  | zero => intro t ht; exact absurd ht (by cases t; simp)
  | succ m ih =>
    intro t ht w0 w W v v0 v1 v2 b d hn htab hb0 hfo hwr hbl hd
    obtain ⟨lf, at_, ks⟩ := t
    obtain ⟨rfl, rfl, ha, hk, a, c, rfl, hc, hm, hkids⟩ := hn.open
    simp only [T.leaf, T.atom, T.kids] at ha hk hc hkids ⊢
    have hsub : ∀ k ∈ ks, SizeOf.sizeOf k ≤ m := fun k hk => by have := kid_size (l := lf) (a := at_) hk; omega
    unfold strV
    obtain ⟨S, hS⟩ : ∃ S : ByteArray, S = ⟨at_.toArray⟩ := ⟨_, rfl⟩
    have hSs : S.size = at_.length := by rw [hS, str_size]
    have hSe : S.toList.isEmpty = at_.isEmpty := by rw [Lib.toList_data, hS]
    rw [← hS]
    obtain ⟨n, hnn⟩ : ∃ n, n = ks.length := ⟨_, rfl⟩
    rw [← hnn] at hk hc ⊢
    obtain ⟨c0, c1, c2⟩ := box_cells w (.bool lf) (.string S) (.slice a n c)
    have hb1 : Below w.heap.size w (w.alloc (.cells #[.bool lf, .string S, .slice a n c] 50)) := (Below.refl _ w).alloc (Nat.le_refl _) _
    obtain ⟨w1, hw1⟩ : ∃ w1, w.alloc (.cells #[.bool lf, .string S, .slice a n c] 50) = w1 := ⟨_, rfl⟩
    rw [hw1] at hb1 c0 c1 c2
    have hwr1 := hwr.keep hb1
    have HFL := Lib.hid (wFoot_lt hwr)
    obtain ⟨k0, k1, kf⟩ := hwr1.cells
    obtain ⟨R, hR⟩ : ∃ R, R = putT d b (.mk lf at_ ks) := ⟨_, rfl⟩
    rw [← hR]
    unfold putT at hR
    have hfault : ∀ e : Int, R = .error e → NodeTo w W v R (w1.setCell ⟨W, 1, none⟩ (.int .i64 e)) := fun e he => by rw [he]; exact (hwr1.fault e).after hb1
    have HF := Lib.hid hfault; have HWR := Lib.hid hwr1; have HB1 := Lib.hid hb1; have HB0 := Lib.hid (hb0.trans (hb1.mono hb0.size))
    have HTAB := Lib.hid htab; have HFO := Lib.hid hfo; have HK := Lib.hid hkids; have HSUB := Lib.hid hsub; have HN := Lib.hid hnn
    clear hfault hwr1 hb1 hb0 hfo hkids hsub hwr hn htab ht
    cases lf
    · rw [if_neg (by simp)] at hR
      cases hae : at_.isEmpty
      · rw [hae, if_neg (by simp)] at hR
        rw [hae] at hSe
        have H := Lib.hid (HF.out 1 hR)
        clear hR hS hSs hae hnn
        go_enter Tryz.func51, Tryz.ntmps51
        go_wp2
        go_end0
        exact ⟨rfl, H.out⟩
      · rw [hae, if_pos rfl] at hR
        rw [hae] at hSe
        by_cases hd32 : 32 ≤ d
        · rw [if_pos hd32] at hR
          have H := Lib.hid (HF.out 4 hR)
          clear hR hS hSs hae hnn
          go_enter Tryz.func51, Tryz.ntmps51
          go_wp2
          go_end0
          exact ⟨rfl, H.out⟩
        · rw [if_neg hd32] at hR
          have hp := wput_any w1 W v b [40] HWR.out hbl (by decide)
          rw [show (⟨([40] : List UInt8).toArray⟩ : ByteArray) = ⟨#[40]⟩ from rfl] at hp
          obtain ⟨Rk, hRk, hRR⟩ : ∃ Rk : Except Int (List UInt8), ((65536 < (b ++ [40]).length ∧ Rk = .error 3) ∨ ((b ++ [40]).length ≤ 65536 ∧ Rk = putsT (d + 1) (b ++ [40]) ks)) ∧ R = (match Rk with | .error e => .error e | .ok b2 => roomB (b2 ++ [41])) := by
            by_cases hbig : 65536 < (b ++ [40]).length
            · exact ⟨.error 3, .inl ⟨hbig, rfl⟩, by rw [hR]; unfold roomB; rw [if_pos hbig]⟩
            · exact ⟨_, .inr ⟨by omega, rfl⟩, by rw [hR, show roomB (b ++ [40]) = .ok (b ++ [40]) from by unfold roomB; rw [if_neg hbig]]; dsimp only; cases putsT (d + 1) (b ++ [40]) ks <;> rfl⟩
          have hp2 : Calls Tryz.prog 70 #[.pointer (some ⟨W, 0, none⟩), .string ⟨#[40]⟩] w1 (fun e w' => e = .returned (.tuple #[]) ∧ ∃ (f : Int) (v' : Value) (b' : List UInt8), WrAt W v' b' f w' ∧ Ch (wFoot W v) w1 w' ∧ (∀ g ∈ wFoot W v', g ∈ wFoot W v ∨ w1.heap.size ≤ g) ∧ ((f ≠ 0 ∧ Rk = .error f) ∨ (f = 0 ∧ b'.length ≤ 65536 ∧ Rk = putsT (d + 1) b' ks))) := by
            refine hp.mono ?_
            rintro e w' ⟨rfl, v', b', rfl, q2, q3, q4⟩
            refine ⟨rfl, _, v', _, q2, q3, q4, ?_⟩
            rcases hRk with ⟨h1, h2⟩ | ⟨h1, h2⟩
            · rw [if_pos h1]; exact .inl ⟨by decide, h2⟩
            · rw [if_neg (by omega)]; exact .inr ⟨rfl, h1, h2⟩
          have HC2 := Lib.hid c2; have HP := Lib.hid hp2; have HRR := Lib.hid hRR
          have hsz1 : w.heap.size < w1.heap.size := cell_lt c2
          have HSZ := Lib.hid hsz1
          clear hp hp2 hRR hRk hR hS hSs hae hnn hsz1
          go_enter Tryz.func51, Tryz.ntmps51
          go_wp2_with fail
          refine HP.out.mono ?_
          rintro e w2 ⟨rfl, f1, v', b', g1, g2, g3, g4⟩
          have HINIT := Lib.hid (And.intro g1 (And.intro g2 (And.intro g3 g4)))
          clear g1 g2 g3 g4 c0 c1 c2 k0 k1 kf
          go_wp2_with fail
          go_loopw [6] (fun i wr => ∃ (k : Nat) (f : Int) (v' : Value) (b' : List UInt8), i = .int .i64 k ∧ k ≤ n ∧ Hid (WrAt W v' b' f wr ∧ Ch (wFoot W v) w1 wr ∧ ∀ g ∈ wFoot W v', g ∈ wFoot W v ∨ w1.heap.size ≤ g) ∧ ((f ≠ 0 ∧ Hid (Rk = .error f)) ∨ (f = 0 ∧ b'.length ≤ 65536 ∧ Hid (Rk = putsT (d + 1) b' (ks.drop k))))) (fun i _ => n - (intOf i).toNat)
          case atStart => exact ⟨0, f1, v', b', rfl, Nat.zero_le _, ⟨HINIT.out.1, HINIT.out.2.1, HINIT.out.2.2.1⟩, by rw [List.drop_zero]; exact HINIT.out.2.2.2⟩
          case round =>
            obtain ⟨k, f, v', b', rfl, hk2, hst, hcase⟩ := hrel
            obtain ⟨_, m1, mf⟩ := hst.out.1.cells
            have d2 : wr.cell? ⟨w.heap.size, 2, none⟩ = some (.slice a n c) := by
              have hR2 : wr.heap[w.heap.size]? = w1.heap[w.heap.size]? := hst.out.2.1.block _ HSZ.out (fun hm => Nat.lt_irrefl _ (HFL.out _ hm))
              have := HC2.out
              unfold World.cell? at this ⊢
              rw [hR2]; exact this
            rcases hcase with ⟨hf, hRe⟩ | ⟨rfl, hbl2, hRe⟩
            · have hend : NodeTo w W v R wr := by
                rw [HRR.out, hRe.out]
                exact WrTo.after HB1.out ⟨v', b', trivial, hst.out.1, hst.out.2.1, hst.out.2.2⟩
              have HE := Lib.hid hend
              have hff : (f == 0) = false := by simpa using hf
              clear hend
              by_cases hlt : k < n
              · go_wp2
                go_end0
                exact ⟨rfl, HE.out⟩
              · go_wp2
                go_end0
                exact ⟨rfl, HE.out⟩
            · have hb0r : Below w0.heap.size w0 wr := HB0.out.trans (below_of_ch hst.out.2.1 (fun g hg => HFO.out g hg) HB0.out.size)
              by_cases hlt : k < n
              · obtain ⟨t, ht⟩ : ∃ t, ks[k]? = some t := ⟨_, List.getElem?_eq_getElem (by rw [← HN.out]; exact hlt)⟩
                obtain ⟨bb, o, u0, u1, u2, rfl, e0, e1, e2, hnt⟩ := HK.out k t ht
                replace e0 := below_keeps hb0r _ _ e0
                replace e1 := below_keeps hb0r _ _ e1
                replace e2 := below_keeps hb0r _ _ e2
                have hfo' : ∀ g ∈ wFoot W v', w0.heap.size ≤ g := by
                  intro g hg
                  rcases hst.out.2.2 g hg with h | h
                  · exact HFO.out g h
                  · exact Nat.le_trans HB0.out.size h
                have hG := ih t (HSUB.out t (List.mem_of_getElem? ht)) w0 wr W v' u0 u1 u2 b' (d + 1) hnt HTAB.out hb0r hfo' hst.out.1 hbl2 (by omega)
                rw [show ((d + 1 : Nat) : Int) = (d : Int) + 1 from by omega] at hG
                have hG2 : Calls Tryz.prog 51 #[.pointer (some ⟨W, 0, none⟩), .agg #[u0, u1, u2], .int .i64 ((d : Int) + 1)] wr (fun e w' => e = .returned (.tuple #[]) ∧ ∃ (f2 : Int) (v2 : Value) (b2 : List UInt8), (WrAt W v2 b2 f2 w' ∧ Ch (wFoot W v) w1 w' ∧ ∀ g ∈ wFoot W v2, g ∈ wFoot W v ∨ w1.heap.size ≤ g) ∧ ((f2 ≠ 0 ∧ Rk = .error f2) ∨ (f2 = 0 ∧ b2.length ≤ 65536 ∧ Rk = putsT (d + 1) b2 (ks.drop (k + 1))))) := by
                  refine hG.mono ?_
                  rintro e w' ⟨rfl, hN⟩
                  refine ⟨rfl, ?_⟩
                  have hRk := hRe.out
                  rw [puts_drop ht] at hRk
                  cases hr : putT (d + 1) b' t with
                  | error e =>
                    rw [hr] at hN hRk
                    obtain ⟨v2, b2, _, q2, q3, q4⟩ := WrTo.trans hst.out.2.1 hst.out.2.2 hN
                    exact ⟨e, v2, b2, ⟨q2, q3, q4⟩, .inl ⟨by rcases putT_err t _ _ _ hr with rfl | rfl | rfl <;> decide, hRk⟩⟩
                  | ok c2 =>
                    rw [hr] at hN hRk
                    obtain ⟨v2, b2, rfl, q2, q3, q4⟩ := WrTo.trans hst.out.2.1 hst.out.2.2 hN
                    exact ⟨0, v2, b2, ⟨q2, q3, q4⟩, .inr ⟨rfl, putT_len t _ _ _ hr, hRk⟩⟩
                have HG := Lib.hid hG2
                clear hG hG2 hfo' hnt ht hb0r
                go_wp2_with fail
                refine HG.out.mono ?_
                rintro e w3 ⟨rfl, f2, v2, b2, q1, q2⟩
                have Q1 := Lib.hid q1; have Q2 := Lib.hid q2; clear q1 q2
                go_wp2
                go_roundw
                case rel => exact ⟨k + 1, f2, v2, b2, by go_num, hlt, Q1, Q2.out⟩
                case measure => simp [intOf]; omega
              · obtain rfl : k = n := by omega
                have hRk : Rk = .ok b' := by
                  have := hRe.out
                  rw [List.drop_of_length_le (by rw [← HN.out]; exact Nat.le_refl _)] at this
                  unfold putsT at this; exact this
                have hp := wput_any wr W v' b' [41] hst.out.1 hbl2 (by decide)
                rw [show (⟨([41] : List UInt8).toArray⟩ : ByteArray) = ⟨#[41]⟩ from rfl] at hp
                have hp2 : Calls Tryz.prog 70 #[.pointer (some ⟨W, 0, none⟩), .string ⟨#[41]⟩] wr (fun e w' => e = .returned (.tuple #[]) ∧ NodeTo w W v R w') := by
                  refine hp.mono ?_
                  rintro e w' ⟨rfl, h⟩
                  refine ⟨rfl, ?_⟩
                  have h' := WrTo.after HB1.out (WrTo.trans hst.out.2.1 hst.out.2.2 h)
                  rw [HRR.out, hRk]
                  show NodeTo w W v (roomB (b' ++ [41])) w'
                  unfold roomB
                  split
                  · rename_i hl
                    rw [if_pos hl] at h'
                    obtain ⟨vx, bx, _, q2, q3, q4⟩ := h'
                    exact ⟨vx, bx, trivial, q2, q3, q4⟩
                  · rename_i hl
                    rw [if_neg hl] at h'
                    exact h'
                have HP2 := Lib.hid hp2
                clear hp hp2 hRk hb0r
                go_wp2_with fail
                refine HP2.out.mono ?_
                rintro e w3 ⟨rfl, h3⟩
                have H3 := Lib.hid h3; clear h3
                go_wp2
                go_end0
                exact ⟨rfl, H3.out⟩
    · rw [if_pos rfl] at hR
      cases hke : ks.isEmpty
      · rw [hke, if_neg (by simp)] at hR
        have H := Lib.hid (HF.out 1 hR)
        have hn0 : 0 < n := by rw [hnn]; cases ks with | nil => cases hke | cons k ks => simp
        clear hR hS hSs hke hnn
        go_enter Tryz.func51, Tryz.ntmps51
        go_wp2
        go_end0
        exact ⟨rfl, H.out⟩
      · rw [hke, if_pos rfl] at hR
        have hn0 : n = 0 := by rw [hnn]; cases ks with | nil => rfl | cons k ks => cases hke
        by_cases hal : 65536 < at_.length
        · rw [if_pos hal] at hR
          have H := Lib.hid (HF.out 3 hR)
          have hSl : 65536 < S.size := by omega
          clear hR hS hSs hke hnn
          subst hn0
          go_enter Tryz.func51, Tryz.ntmps51
          go_wp2
          go_end0
          exact ⟨rfl, H.out⟩
        · rw [if_neg hal] at hR
          subst hn0
          have hSl : S.size ≤ 65536 := by omega
          have hit := fun W2 (hb2 : Below w1.heap.size w1 W2) => itoa_any S.size W2 (by omega) ((HTAB.out.below HB0.out).below hb2)
          obtain ⟨I, hI⟩ : ∃ I : ByteArray, I = ⟨(Lib.itoa S.size).toArray⟩ := ⟨_, rfl⟩
          have hIs : I.size ≤ 21 := by rw [hI, str_size]; exact Lib.itoa_length_le _ (by omega) (by omega)
          have hcat : I ++ ⟨#[58]⟩ ++ S = ⟨(atomB at_).toArray⟩ := by
            unfold atomB
            rw [hI, hSs, hS, show (⟨#[58]⟩ : ByteArray) = ⟨[58].toArray⟩ from rfl, str_append, str_append]
            simp
          have habl : (atomB at_).length ≤ 100000000 := by
            rw [← str_size, ← hcat, ByteArray.size_append, ByteArray.size_append]
            show I.size + 1 + S.size ≤ _
            omega
          unfold strV at hit
          rw [← hI] at hit
          have hput : ∀ w2, Below w1.heap.size w1 w2 → Calls Tryz.prog 70 #[.pointer (some ⟨W, 0, none⟩), .string (I ++ ⟨#[58]⟩ ++ S)] w2 (fun e w' => e = .returned (.tuple #[]) ∧ NodeTo w W v R w' ∧ (∀ u, w2.cell? ⟨w.heap.size, 1, none⟩ = some u → w'.cell? ⟨w.heap.size, 1, none⟩ = some u)) := by
            intro w2 hb2
            rw [hcat]
            refine (wput_any w2 W v b (atomB at_) (HWR.out.keep hb2) hbl habl).mono ?_
            rintro e w' ⟨rfl, h⟩
            refine ⟨rfl, ?_, ?_⟩
            rotate_left
            · intro u hu
              obtain ⟨_, _, _, _, q3, _⟩ := h
              have hR2 : w'.heap[w.heap.size]? = w2.heap[w.heap.size]? := q3.block _ (cell_lt hu) (fun hm => Nat.lt_irrefl _ (HFL.out _ hm))
              unfold World.cell? at hu ⊢
              rw [hR2]; exact hu
            have h' := h.after (HB1.out.trans (hb2.mono HB1.out.size))
            rw [hR]
            unfold roomB
            split
            · rename_i hl
              rw [if_pos hl] at h'
              obtain ⟨v', b', _, q2, q3, q4⟩ := h'
              exact ⟨v', b', trivial, q2, q3, q4⟩
            · rename_i hl
              rw [if_neg hl] at h'
              exact h'
          have hdr : ∀ w', NodeTo w W v R w' → NodeTo w W v R w'.drew := by
            intro w' h
            cases R with
            | ok c => exact WrTo.drew h
            | error e => exact WrTo.drew h
          have HIT := Lib.hid hit; have HPUT := Lib.hid hput; have HDR := Lib.hid hdr
          have HC1 := Lib.hid c1
          have hz1 : ¬ 9223372036854775807 < I.size + 1 := Nat.not_lt.2 (Nat.le_trans (show I.size + 1 ≤ 200000 from by omega) (by decide))
          have hz2 : ¬ 9223372036854775807 < I.size + 1 + S.size := Nat.not_lt.2 (Nat.le_trans (show I.size + 1 + S.size ≤ 200000 from by omega) (by decide))
          clear hit hput hdr hcat habl hI hR hS hSs hke hnn hal
          go_enter Tryz.func51, Tryz.ntmps51
          go_wp2_with fail
          go_region_held3 (fun w' => w'.cell? ⟨w.heap.size, 1, none⟩ = some (.string S)) (first | exact y2 | exact y1 | exact c1)
            (first | (go_at_call 71; refine (HIT.out _ ((Below.refl _ w1).drew)).mono ?_; rintro e w2 ⟨rfl, hb2⟩; have y1 := below_keeps hb2 _ _ HC1.out; have HB2 := Lib.hid (((Below.refl w1.heap.size w1).drew).trans hb2); clear hb2) | (go_at_call 70; refine (HPUT.out w2 HB2.out).mono ?_; rintro e w3 ⟨rfl, h3, hy⟩; have y2 := hy _ y1; have H3 := Lib.hid (HDR.out w3 h3); have H4 := Lib.hid h3; clear h3 hy))
          all_goals
            go_wp2
            go_end0
            exact ⟨rfl, H4.out⟩
end Go.Proofs.YtjcimajkjnjdpabGreatDoor
