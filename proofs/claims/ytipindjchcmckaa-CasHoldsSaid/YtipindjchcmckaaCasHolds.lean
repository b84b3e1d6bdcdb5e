/- DERIVED. The walk of CasHolds. -/
import Derived.Test.YtipindjchcmckaaCasHo
import Derived.Deep.RegionHeld3
namespace Go.Proofs.Ytipindjchcmckaa
open Go.RowKit
set_option linter.unusedVariables false

theorem RdStrs.cell {w : World} {b o : Nat} {ls : List (List UInt8)} (h : RdStrs w (some ⟨b, o, none⟩) ls) {i : Nat} {l : List UInt8} (hi : ls[i]? = some l) : w.cell? ⟨b, o + i, none⟩ = some (.string ⟨l.toArray⟩) := by
  obtain ⟨b', o', e, hc⟩ := h (by intro e; rw [e] at hi; cases hi)
  injection e with e
  obtain ⟨rfl, rfl⟩ : b = b' ∧ o = o' := by injection e with e1 e2; exact ⟨e1, e2⟩
  exact hc i l hi
theorem below_to_drew (w : World) : Below w.heap.size w w.drew := ⟨rfl, rfl, rfl, Nat.le_refl _, fun _ _ => rfl⟩
theorem holds_start {B : Nat} {w0 w : World} {P : Nat} {wd : Int} (h : CasOwn B w0 P wd [] w) : HoldsInv B w0 P wd [] (.slice none 0 0) (.slice none 0 0) 0 0 [] [] w :=
  ⟨h.with, World.ownsRow_nil _ _ _ _, World.ownsRow_nil _ _ _ _, by intro g hg; cases hg⟩
set_option maxRecDepth 100000 in
set_option maxHeartbeats 4000000 in
theorem holds_any (w : World) (wd : Int) (a : Option Addr) (c : Nat) (ls : List (List UInt8)) (ha : RdStrs w a ls) (hl : ls.length ≤ 140737488351232) (hr : ∀ r ∈ ls, r.length ≤ 140737488351232) :
    Calls Try.prog 4 #[.int .i64 wd, .slice a ls.length c] w fun e w' => e = .returned (.bool true) ∧ Below w.heap.size w w' := by
  have HA := Lib.hid ha; have HR := Lib.hid hr; clear ha hr
  obtain ⟨i9, hi, hz0, hz1, hz2⟩ := info_parts info9
  go_enter Try.func4, Try.ntmps4
  go_wp2_with fail
  refine (calive_any w).mono ?_
  rintro e w1 ⟨rfl, hb1⟩
  have HB1 := Lib.hid hb1; clear hb1
  have HG := Lib.hid (cgreat_any w1 a c ls (HA.out.below HB1.out) hl HR.out)
  go_wp2_with fail
  refine HG.out.mono ?_
  rintro e w2 ⟨g, rfl, hg, rfl⟩
  cases g
  · obtain ⟨hl60, hrs⟩ := hg rfl
    have HRS := Lib.hid hrs; clear hg hrs HG
    go_wp2_with fail
    refine (cas_new w1 w.heap.size w HB1.out HB1.out.size wd).mono ?_
    rintro e w3 ⟨P, rfl, o3⟩
    have O3 := Lib.hid o3; clear o3
    go_wp2_with fail
    go_loopw [6, 7, 25] (fun x y i wr => ∃ (k n : Nat) (ps : List Pr) (ks os : List (List UInt8)) (ak ao : Option Addr) (ck co : Nat), k ≤ ls.length ∧ n ≤ k ∧ ps.length ≤ k ∧ i = .int .i64 k ∧ x = .slice ak n ck ∧ y = .slice ao n co ∧ Hid (HoldsInv w.heap.size w P wd ps (.slice ak n ck) (.slice ao n co) n n ks os wr) ∧ Hid (HoldsP wd ps n ks os)) (fun _ _ i _ => ls.length - (intOf i).toNat)
    case atStart => exact ⟨0, 0, [], [], [], none, none, 0, 0, Nat.zero_le _, Nat.le_refl _, Nat.le_refl _, rfl, rfl, rfl, holds_start O3.out, ⟨rfl, rfl, by simp, by simp⟩⟩
    case round =>
      obtain ⟨k, n, ps, ks, os, ak, ao, ck, co, hk, hn, hps, rfl, rfl, rfl, HI, HP⟩ := hrel
      have hbw := HI.out.st.bel
      by_cases hlt : k < ls.length
      · obtain ⟨b, o, rfl, hc⟩ := (HA.out.below (hbw.1)) (by intro e; rw [e] at hlt; exact absurd hlt (Nat.not_lt_zero _))
        obtain ⟨l, hl'⟩ : ∃ l, ls[k]? = some l := ⟨_, List.getElem?_eq_getElem hlt⟩
        have h1 := hc k l hl'
        have hll := HRS.out l (List.mem_of_getElem? hl')
        clear hc hl' hbw
        go_wp2_with fail
        refine (with_put HI.out.st (by omega) l (by omega)).mono ?_
        rintro e w4 ⟨key, err, ps', rfl, hr, hst, hkeep⟩
        have H4 := Lib.hid (HI.out.other hst hkeep)
        have hpl := hr.len
        clear hst hkeep
        rcases hr with ⟨rfl, hr1, rfl, rfl⟩ | ⟨rfl, hr1, ⟨old, hr2, hr3⟩, rfl, rfl⟩ | ⟨rfl, hr1, rfl, hr3, hr4⟩
        · go_wp2_with fail
          go_roundw
          case rel => exact ⟨k + 1, n, ps', ks, os, ak, ao, ck, co, by omega, by omega, by omega, by go_num, rfl, rfl, H4.out, HP.out⟩
          case measure => simp [intOf]; omega
        · have HR2 := Lib.hid hr2; have HR3 := Lib.hid hr3; clear hr2 hr3
          have HK := Lib.hid (with_key H4.out.st l (by omega))
          go_wp2_with fail
          refine HK.out.mono ?_
          rintro e w5 ⟨rfl, hb5⟩
          have H5 := Lib.hid (H4.out.below hb5); clear hb5 HK
          have HGE := Lib.hid (with_get H5.out.st (by omega) (casKey wd l))
          go_wp2_with fail
          refine HGE.out.mono ?_
          rintro e w6 ⟨val, bb, rfl, g1, g2, g3⟩
          have H6 := Lib.hid (H5.out.below g3); clear g3 HGE
          cases bb
          · exact absurd HR2.out ((g2 rfl).2 old)
          · have hval : val = old := by
              have := H6.out.st.bel.2.2.inj (g1 rfl) HR2.out rfl
              exact (Prod.mk.inj this).2
            subst hval
            have hv1 : (val == l) = false := by simpa using HR3.out
            clear g1 g2
            unfold strV
            go_wp2_with fail
            go_roundw
            case rel => exact ⟨k + 1, n, ps', ks, os, ak, ao, ck, co, by omega, by omega, by omega, by go_num, rfl, rfl, H6.out, HP.out⟩
            case measure => simp [intOf]; omega
        · have HP' := Lib.hid (HP.out.more hr3 hr1); clear hr3 hr4
          have hB4 := H4.out.st.bel.2.1
          have HA4 := Lib.hid (fun o => H4.out.alloc o)
          unfold strV
          go_wp2_with (first
            | (at_builtin; refine wpList_append_srcs rfl (.tmp 37) (.tmp 39) 22 22 rfl w.heap.size 9 i9 (.string ByteArray.empty) 1 16 Try.underlying22 hi hz0 hz1 hz2 rfl (by decide) (.slice ak n ck) rfl _ _ (HA4.out _).rk _ rfl _ _ (one_src w4 (casKey wd l) _) (by unfold maxLen; omega) (by omega) (by simp; omega) ?_; intro a5 c5 w5 hown hgrow _ hblk; have H5 := Lib.hid ((HA4.out _).key hgrow hown hblk); have HA5 := Lib.hid (fun o => H5.out.alloc o); have hB5 := H5.out.st.bel.2.1; clear hown hgrow hblk HA4 H4)
            | (at_builtin; refine wpList_append_srcs rfl (.tmp 41) (.tmp 43) 22 22 rfl w.heap.size 9 i9 (.string ByteArray.empty) 1 16 Try.underlying22 hi hz0 hz1 hz2 rfl (by decide) (.slice ao n co) rfl _ _ (HA5.out _).ro _ rfl _ _ (one_src w5 l _) (by unfold maxLen; omega) (by omega) (by simp; omega) ?_; intro a6 c6 w6 hown hgrow _ hblk; have H6 := Lib.hid ((HA5.out _).obj hgrow hown hblk); clear hown hgrow hblk HA5 H5))
          go_roundw
          case rel => exact ⟨k + 1, n + 1, ps', _, _, a5, a6, c5, c6, by omega, by omega, by omega, by go_num, rfl, rfl, H6.out, HP'.out⟩
          case measure => simp [intOf]; omega
      · have hbw' := HI.out.st.bel
        obtain ⟨q1, q2, q3, q4⟩ := HP.out
        have HBW := Lib.hid hbw'
        have Q1 := Lib.hid q1; have Q2 := Lib.hid q2; have Q3 := Lib.hid q3; have Q4 := Lib.hid q4
        clear q1 q2 q3 q4 hbw' hbw
        go_wp2_with fail
        go_loopw [65] (fun i wq => ∃ j : Nat, j ≤ n ∧ i = .int .i64 j ∧ Hid (HoldsInv w.heap.size w P wd ps (.slice ak n ck) (.slice ao n co) n n ks os wq)) (fun i _ => n - (intOf i).toNat)
        case atStart => exact ⟨0, Nat.zero_le _, rfl, HI.out⟩
        case round =>
          obtain ⟨j, hj, rfl, HJ⟩ := hrel
          by_cases hjn : j < n
          · obtain ⟨ob, hob⟩ : ∃ ob, os[j]? = some ob := ⟨_, List.getElem?_eq_getElem (by rw [Q2.out]; exact hjn)⟩
            have hkj : ks[j]? = some (casKey wd ob) := by rw [Q1.out, List.getElem?_map, hob]; rfl
            have hmem := Q3.out ob (List.mem_of_getElem? hob)
            have hobl := Q4.out ob (List.mem_of_getElem? hob)
            have hne1 : ks ≠ [] := by intro e; rw [e] at hkj; cases hkj
            have hne2 : os ≠ [] := by intro e; rw [e] at hob; cases hob
            have hrk := RdStrs.of_owns HJ.out.rk
            have hro := RdStrs.of_owns HJ.out.ro
            obtain ⟨bk, ok, rfl, hck⟩ := hrk hne1
            obtain ⟨bo, oo, rfl, hco⟩ := hro hne2
            have z1 := hck j _ hkj
            have hcapk := owns_cap HJ.out.rk
            have hcapo := owns_cap HJ.out.ro
            have HGE := Lib.hid (with_get HJ.out.st (by omega) (casKey wd ob))
            have HMEM := Lib.hid hmem; have HOB := Lib.hid hob; have HKJ := Lib.hid hkj; have HN1 := Lib.hid hne1; have HN2 := Lib.hid hne2
            clear hrk hro hck hco hob hkj hmem hne1 hne2
            go_wp2_with fail
            refine HGE.out.mono ?_
            rintro e w6 ⟨val, bb, rfl, g1, g2, g3⟩
            have H6 := Lib.hid (HJ.out.below g3); clear g3 HGE
            cases bb
            · exact absurd HMEM.out ((g2 rfl).2 ob)
            · have hval : val = ob := by
                have := H6.out.st.bel.2.2.inj (g1 rfl) HMEM.out rfl
                exact (Prod.mk.inj this).2
              subst hval
              clear g1 g2
              have y1 := RdStrs.cell (RdStrs.of_owns H6.out.rk) HKJ.out
              have y2 := RdStrs.cell (RdStrs.of_owns H6.out.ro) HOB.out
              have H6D := Lib.hid (H6.out.below (below_to_drew w6))
              have HKEY := Lib.hid (with_key H6D.out.st val (by omega))
              clear z1
              unfold strV
              go_wp2_with fail
              go_region_held3 (fun w' => w'.cell? ⟨bk, ok + j, none⟩ = some (.string ⟨(casKey wd val).toArray⟩) ∧ w'.cell? ⟨bo, oo + j, none⟩ = some (.string ⟨val.toArray⟩)) (first | exact ⟨y3, y4⟩ | exact ⟨y1, y2⟩)
                (first | (go_at_call 13; refine HKEY.out.mono ?_; rintro e w7 ⟨rfl, hb7⟩; have H7 := Lib.hid (H6D.out.below hb7); have y3 := RdStrs.cell (RdStrs.of_owns H7.out.rk) HKJ.out; have y4 := RdStrs.cell (RdStrs.of_owns H7.out.ro) HOB.out; clear hb7; unfold strV))
              all_goals
                go_wp2_with fail
                go_roundw
                case rel => exact ⟨j + 1, by omega, by go_num, H7.out⟩
                case measure => simp [intOf]; omega
          · go_wp2
            go_ret
            exact ⟨rfl, HJ.out.st.bel.1⟩
  · go_wp2
    go_ret
    exact ⟨rfl, HB1.out⟩
end Go.Proofs.Ytipindjchcmckaa
