/- DERIVED. The walk of CasOrders. -/
import Derived.Test.YtipindjchcmckaaCasHo
import Derived.Deep.RegionHeld3
namespace Go.Proofs.Ytipindjchcmckaa
open Go.RowKit
set_option linter.unusedVariables false

/-- Two stores of the call's own. -/
def Two (B : Nat) (w0 : World) (P Q : Nat) (wd : Int) (ps qs : List Pr) (w : World) : Prop :=
  ∃ S v T u, StAt w P S v wd ps ∧ StAt w Q T u wd qs ∧ (∀ k ∈ stFoot P S v, B ≤ k ∧ k ∉ stFoot Q T u) ∧ (∀ k ∈ stFoot Q T u, B ≤ k) ∧ Below B w0 w ∧ B ≤ w.heap.size
section
variable {B : Nat} {w0 w w' : World} {P Q : Nat} {wd : Int} {ps qs : List Pr}
theorem Two.symm (h : Two B w0 P Q wd ps qs w) : Two B w0 Q P wd qs ps w := by
  obtain ⟨S, v, T, u, h1, h2, h3, h4, h5, h6⟩ := h
  exact ⟨T, u, S, v, h2, h1, fun k hk => ⟨h4 k hk, fun hk' => (h3 k hk').2 hk⟩, fun k hk => (h3 k hk).1, h5, h6⟩
theorem Two.below (h : Two B w0 P Q wd ps qs w) (hb : Below w.heap.size w w') : Two B w0 P Q wd ps qs w' := by
  obtain ⟨S, v, T, u, h1, h2, h3, h4, h5, h6⟩ := h
  exact ⟨S, v, T, u, h1.below hb, h2.below hb, h3, h4, h5.trans (hb.mono h6), Nat.le_trans h6 hb.size⟩
theorem Two.bel (h : Two B w0 P Q wd ps qs w) : Below B w0 w ∧ B ≤ w.heap.size ∧ Srt ps ∧ Srt qs := by
  obtain ⟨S, v, T, u, h1, h2, h3, h4, h5, h6⟩ := h
  exact ⟨h5, h6, h1.sh.srt, h2.sh.srt⟩
theorem two_put (h : Two B w0 P Q wd ps qs w) (hl : ps.length ≤ 999999) (b : List UInt8) (hb : b.length ≤ 140737488351232) :
    Calls Try.prog 11 #[.pointer (some ⟨P, 0, none⟩), strV b] w fun e w' => ∃ key err ps', e = .returned (.tuple #[strV key, .int .i64 err]) ∧ CputRel wd ps b key err ps' ∧ Two B w0 P Q wd ps' qs w' := by
  obtain ⟨S, v, T, u, h1, h2, h3, h4, h5, h6⟩ := h
  refine (cput_any w P S v wd ps h1 hl b hb).mono ?_
  rintro e w' ⟨key, err, ps', rfl, hr, v', g1, g2, g3⟩
  refine ⟨key, err, ps', rfl, hr, S, v', T, u, g1, h2.keep (fun k hk => g2.block k (h2.lt k hk) (fun hf => (h3 k hf).2 hk)), fun k hk => ?_, h4, h5.trans (below_of_ch g2 (fun k hk => (h3 k hk).1) h6), Nat.le_trans h6 g2.size⟩
  rcases g3 k hk with h | h
  · exact h3 k h
  · exact ⟨Nat.le_trans h6 h, fun hF => by have := h2.lt k hF; omega⟩
theorem two_get (h : Two B w0 P Q wd ps qs w) (hl : ps.length ≤ 1000000) (k : List UInt8) :
    Calls Try.prog 16 #[.pointer (some ⟨P, 0, none⟩), strV k] w (GetTo ps k w) := by
  obtain ⟨S, v, T, u, h1, _⟩ := h
  exact cget_any w P S v wd ps h1 hl k
theorem two_key (h : Two B w0 P Q wd ps qs w) (b : List UInt8) (hb : b.length ≤ 140737488351232) :
    Calls Try.prog 13 #[.pointer (some ⟨P, 0, none⟩), strV b] w fun e w' => e = .returned (strV (casKey wd b)) ∧ Below w.heap.size w w' := by
  obtain ⟨S, v, T, u, h1, _⟩ := h
  exact ckey_any w P S v wd ps h1 b hb
theorem two_len (h : Two B w0 P Q wd ps qs w) :
    Calls Try.prog 15 #[.pointer (some ⟨P, 0, none⟩)] w fun e w' => e = .returned (.int .i64 ps.length) ∧ w = w' := by
  obtain ⟨S, v, T, u, h1, _⟩ := h
  exact clen_any w P S v wd ps h1
end
theorem two_new {B : Nat} {w0 w w1 w2 : World} {wd : Int} (hb : Below B w0 w) (hB : B ≤ w.heap.size)
    (e1 : w1 = (w.alloc (.cells #[.slice none 0 0] 57)).alloc (.cells #[.int .i64 wd, .pointer (some ⟨w.heap.size, 0, none⟩)] 49))
    (e2 : w2 = (w1.alloc (.cells #[.slice none 0 0] 57)).alloc (.cells #[.int .i64 wd, .pointer (some ⟨w1.heap.size, 0, none⟩)] 49)) : Two B w0 (w.heap.size + 1) (w1.heap.size + 1) wd [] [] w2 := by
  have s1 := st_new w wd
  have s2 := st_new w1 wd
  rw [← e1] at s1
  rw [← e2] at s2
  have b1 : Below w.heap.size w w1 := by rw [e1]; exact ((Below.refl _ w).alloc (Nat.le_refl _) _).alloc (by simp) _
  have b2 : Below w1.heap.size w1 w2 := by rw [e2]; exact ((Below.refl _ w1).alloc (Nat.le_refl _) _).alloc (by simp) _
  have hz : w1.heap.size = w.heap.size + 2 := by rw [e1]; simp
  have b3 := b1.trans (b2.mono b1.size)
  refine ⟨_, _, _, _, s1.below b2, s2, ?_, ?_, hb.trans (b3.mono hB), Nat.le_trans hB b3.size⟩
  · intro k hk
    simp [stFoot, shFoot, Value.ownBlock] at hk ⊢
    omega
  · intro k hk
    simp [stFoot, shFoot, Value.ownBlock] at hk
    omega
/-- The pairs are those of these bytes. -/
def OrdP (wd : Int) (ps : List Pr) (xs : List (List UInt8)) : Prop := ∀ p, p ∈ ps ↔ ∃ b ∈ xs, b.length ≤ 65536 ∧ p = (casKey wd b, b)
theorem OrdP.put {wd : Int} {ps ps' : List Pr} {xs : List (List UInt8)} {b key : List UInt8} {err : Int} (h : OrdP wd ps xs) (hr : CputRel wd ps b key err ps') (he : err ≠ 72) : OrdP wd ps' (xs ++ [b]) := by
  rcases hr with ⟨_, h2, _, rfl⟩ | ⟨h1, _⟩ | ⟨_, h2, _, h4, _⟩
  · intro p
    rw [h p]
    constructor
    · rintro ⟨c, hc, h1⟩; exact ⟨c, List.mem_append_left _ hc, h1⟩
    · rintro ⟨c, hc, h1, h3⟩
      rcases List.mem_append.1 hc with hc | hc
      · exact ⟨c, hc, h1, h3⟩
      · obtain rfl : c = b := by simpa using hc
        omega
  · exact absurd h1 he
  · intro p
    rw [h4 p, h p]
    constructor
    · rintro (rfl | ⟨c, hc, h1⟩)
      · exact ⟨b, by simp, h2, rfl⟩
      · exact ⟨c, List.mem_append_left _ hc, h1⟩
    · rintro ⟨c, hc, h1, h3⟩
      rcases List.mem_append.1 hc with hc | hc
      · exact .inr ⟨c, hc, h1, h3⟩
      · obtain rfl : c = b := by simpa using hc
        exact .inl h3
def turned (ls : List (List UInt8)) (A k : Nat) : List (List UInt8) := (List.range k).map fun i => ls.getD ((i + A) % ls.length) []
theorem turned_succ (ls : List (List UInt8)) (A k : Nat) (l : List UInt8) (h : ls[(k + A) % ls.length]? = some l) : turned ls A (k + 1) = turned ls A k ++ [l] := by
  unfold turned
  rw [List.range_succ, List.map_append]
  simp [List.getD, h]
theorem mem_turned (ls : List (List UInt8)) (A : Nat) (hA : A ≤ ls.length) (b : List UInt8) : b ∈ turned ls A ls.length ↔ b ∈ ls := by
  unfold turned
  rw [List.mem_map]
  constructor
  · rintro ⟨i, hi, rfl⟩
    have hi := List.mem_range.1 hi
    have hm := Nat.mod_lt (i + A) (show 0 < ls.length from by omega)
    rw [List.getD, List.getElem?_eq_getElem hm]
    exact List.getElem_mem hm
  · intro hb
    obtain ⟨j, hj⟩ := List.mem_iff_getElem?.1 hb
    have hjl := (List.getElem?_eq_some_iff.1 hj).1
    rcases Nat.lt_or_ge j A with h | h
    · refine ⟨j + ls.length - A, List.mem_range.2 (by omega), ?_⟩
      rw [show j + ls.length - A + A = j + ls.length from by omega, Nat.add_mod_right, Nat.mod_eq_of_lt hjl, List.getD, hj]; rfl
    · refine ⟨j - A, List.mem_range.2 (by omega), ?_⟩
      rw [show j - A + A = j from by omega, Nat.mod_eq_of_lt hjl, List.getD, hj]; rfl
theorem ord_eq {wd : Int} {ps qs : List Pr} {ls : List (List UInt8)} {A : Nat} (hA : A ≤ ls.length) (h1 : OrdP wd ps (ls.take ls.length)) (h2 : OrdP wd qs (turned ls A ls.length)) (s1 : Srt ps) (s2 : Srt qs) : ps = qs ∧ ∀ b ∈ ls, b.length ≤ 65536 → (casKey wd b, b) ∈ ps := by
  rw [List.take_length] at h1
  refine ⟨srt_ext s1 s2 (fun p => ?_), fun b hb hl => (h1 _).2 ⟨b, hb, hl, rfl⟩⟩
  rw [h1 p, h2 p]
  constructor
  · rintro ⟨b, hb, h⟩; exact ⟨b, (mem_turned ls A hA b).2 hb, h⟩
  · rintro ⟨b, hb, h⟩; exact ⟨b, (mem_turned ls A hA b).1 hb, h⟩
set_option maxRecDepth 100000 in
set_option maxHeartbeats 4000000 in
theorem orders_any (w : World) (wd : Int) (a : Option Addr) (c : Nat) (ls : List (List UInt8)) (ha : RdStrs w a ls) (hl : ls.length ≤ 140737488351232) (hr : ∀ r ∈ ls, r.length ≤ 140737488351232) (at_ : Int) :
    Calls Try.prog 6 #[.int .i64 wd, .slice a ls.length c, .int .i64 at_] w fun e w' => e = .returned (.bool true) ∧ Below w.heap.size w w' := by
  have HA := Lib.hid ha; have HR := Lib.hid hr; clear ha hr
  by_cases hneg : at_ < 0
  · go_enter Try.func6, Try.ntmps6
    go_wp2_with fail
    refine (calive_any w).mono ?_
    rintro e w1 ⟨rfl, hb1⟩
    have HB1 := Lib.hid hb1; clear hb1
    have HG := Lib.hid (cgreat_any w1 a c ls (HA.out.below HB1.out) hl HR.out)
    go_wp2_with fail
    refine HG.out.mono ?_
    rintro e w2 ⟨g, rfl, hg, rfl⟩
    cases g
    all_goals
      clear hg
      go_wp2
      go_ret
      exact ⟨rfl, HB1.out⟩
  · obtain ⟨A, rfl⟩ : ∃ A : Nat, at_ = A := ⟨at_.toNat, by omega⟩
    go_enter Try.func6, Try.ntmps6
    go_wp2_with fail
    refine (calive_any w).mono ?_
    rintro e w1 ⟨rfl, hb1⟩
    have HB1 := Lib.hid hb1; clear hb1
    have HG := Lib.hid (cgreat_any w1 a c ls (HA.out.below HB1.out) hl HR.out)
    go_wp2_with fail
    refine HG.out.mono ?_
    rintro e w2 ⟨g, rfl, hg, rfl⟩
    cases g
    · obtain ⟨hl60, hrs⟩ := hg rfl
      have HRS := Lib.hid hrs; clear hg hrs HG
      by_cases hbig : ls.length < A
      · go_wp2
        go_ret
        exact ⟨rfl, HB1.out⟩
      · have hAl : A ≤ ls.length := by omega
        clear hbig
        go_wp2_with fail
        refine (cnew_any w1 wd).mono ?_
        rintro e w3 ⟨rfl, e3⟩
        have E3 := Lib.hid e3; clear e3
        go_wp2_with fail
        refine (cnew_any w3 wd).mono ?_
        rintro e w4 ⟨rfl, e4⟩
        have T0 := Lib.hid (two_new HB1.out HB1.out.size E3.out e4)
        clear e4 E3
        obtain ⟨P, hP⟩ : ∃ P, P = w1.heap.size + 1 := ⟨_, rfl⟩
        obtain ⟨Q, hQ⟩ : ∃ Q, Q = w3.heap.size + 1 := ⟨_, rfl⟩
        rw [← hP, ← hQ] at T0 ⊢
        clear hP hQ
        go_wp2_with fail
        go_loopw [40] (fun i wr => ∃ (k : Nat) (ps qs : List Pr), k ≤ ls.length ∧ ps.length ≤ k ∧ qs.length ≤ k ∧ i = .int .i64 k ∧ Hid (Two w.heap.size w P Q wd ps qs wr) ∧ Hid (OrdP wd ps (ls.take k)) ∧ Hid (OrdP wd qs (turned ls A k))) (fun i _ => ls.length - (intOf i).toNat)
        case atStart => exact ⟨0, [], [], Nat.zero_le _, Nat.le_refl _, Nat.le_refl _, rfl, T0.out, by intro p; simp, by intro p; simp [turned]⟩
        case round =>
          obtain ⟨k, ps, qs, hk, hps, hqs, rfl, HT, H1, H2⟩ := hrel
          by_cases hlt : k < ls.length
          · obtain ⟨b, o, rfl, hc⟩ := (HA.out.below (HT.out.bel.1)) (by intro e; rw [e] at hlt; exact absurd hlt (Nat.not_lt_zero _))
            obtain ⟨l, hl'⟩ : ∃ l, ls[k]? = some l := ⟨_, List.getElem?_eq_getElem hlt⟩
            have hmod := Nat.mod_lt (k + A) (show 0 < ls.length from by omega)
            obtain ⟨m, hm'⟩ : ∃ m, ls[(k + A) % ls.length]? = some m := ⟨_, List.getElem?_eq_getElem hmod⟩
            have h1 := hc k l hl'
            have hll := HRS.out l (List.mem_of_getElem? hl')
            have hml := HRS.out m (List.mem_of_getElem? hm')
            have HL := Lib.hid hl'; have HM := Lib.hid hm'
            clear hc hl' hm'
            go_wp2_with fail
            refine (two_put HT.out (by omega) l (by omega)).mono ?_
            rintro e w5 ⟨key, err, ps', rfl, hr, ht⟩
            have HR1 := Lib.hid hr; have HT1 := Lib.hid ht
            have hpl := hr.len
            clear hr ht
            obtain ⟨b2, o2, e2, hc2⟩ := (HA.out.below (HT1.out.bel.1)) (by intro e; rw [e] at hlt; exact absurd hlt (Nat.not_lt_zero _))
            obtain ⟨rfl, rfl⟩ : b = b2 ∧ o = o2 := by injection e2 with e2; injection e2 with e3 e4; exact ⟨e3, e4⟩
            have h2 := hc2 _ m HM.out
            clear hc2 e2 h1
            have hm0 : (0 : Int) ≤ ((k : Int) + (A : Int)) % (ls.length : Int) := Int.emod_nonneg _ (by omega)
            have hm1 : ((k : Int) + (A : Int)) % (ls.length : Int) < (ls.length : Int) := Int.emod_lt_of_pos _ (by omega)
            have HPU := Lib.hid (two_put HT1.out.symm (by omega) m (by omega))
            go_wp2_with fail
            refine HPU.out.mono ?_
            rintro e w6 ⟨key2, err2, qs', rfl, hr, ht⟩
            have HR2 := Lib.hid hr; have HT2 := Lib.hid ht.symm
            have hpl2 := hr.len
            clear hr ht HPU h2 hm0 hm1
            have HTS := Lib.hid (turned_succ ls A k m HM.out)
            by_cases he1 : err = 72
            · go_wp2
              all_goals
                go_ret
                exact ⟨rfl, HT2.out.bel.1⟩
            · have hq1 : (err == 72) = false := by simpa using he1
              by_cases he2 : err2 = 72
              · go_wp2
                go_ret
                exact ⟨rfl, HT2.out.bel.1⟩
              · have hq2 : (err2 == 72) = false := by simpa using he2
                go_wp2
                go_roundw
                case rel =>
                  refine ⟨k + 1, ps', qs', by omega, by omega, by omega, by go_num, HT2.out, ?_, ?_⟩
                  · rw [List.take_add_one, HL.out]
                    exact H1.out.put HR1.out he1
                  · rw [HTS.out]
                    exact H2.out.put HR2.out he2
                case measure => simp [intOf]; omega
          · obtain rfl : k = ls.length := by omega
            have hoe := ord_eq hAl H1.out H2.out HT.out.bel.2.2.1 HT.out.bel.2.2.2
            obtain ⟨hpq, hmem⟩ := hoe
            subst hpq
            have HME := Lib.hid hmem
            clear hmem H1 H2
            go_wp2_with fail
            go_loopw [75] (fun i wq => ∃ j : Nat, j ≤ ls.length ∧ i = .int .i64 j ∧ Hid (Two w.heap.size w P Q wd ps ps wq)) (fun i _ => ls.length - (intOf i).toNat)
            case atStart => exact ⟨0, Nat.zero_le _, rfl, HT.out⟩
            case round =>
              obtain ⟨j, hj, rfl, HJ⟩ := hrel
              by_cases hjn : j < ls.length
              · obtain ⟨b, o, rfl, hc⟩ := (HA.out.below (HJ.out.bel.1)) (by intro e; rw [e] at hjn; exact absurd hjn (Nat.not_lt_zero _))
                obtain ⟨l, hl'⟩ : ∃ l, ls[j]? = some l := ⟨_, List.getElem?_eq_getElem hjn⟩
                have h1 := hc j l hl'
                have hsz := str_size l
                have HMEM := Lib.hid (HME.out l (List.mem_of_getElem? hl'))
                clear hc hl'
                by_cases hbig : 65536 < l.length
                · go_wp2_with fail
                  go_roundw
                  case rel => exact ⟨j + 1, by omega, by go_num, HJ.out⟩
                  case measure => simp [intOf]; omega
                · have hll : l.length ≤ 65536 := by omega
                  have HKE := Lib.hid (two_key HJ.out l (by omega))
                  go_wp2_with fail
                  refine HKE.out.mono ?_
                  rintro e w7 ⟨rfl, hb7⟩
                  have H7 := Lib.hid (HJ.out.below hb7); clear hb7 HKE
                  have HGE := Lib.hid (two_get H7.out (by omega) (casKey wd l))
                  go_wp2_with fail
                  refine HGE.out.mono ?_
                  rintro e w8 ⟨val, bb, rfl, g1, g2, g3⟩
                  have H8 := Lib.hid (H7.out.below g3); clear g3 HGE
                  cases bb
                  · exact absurd (HMEM.out hll) ((g2 rfl).2 l)
                  · have hval : val = l := by
                      have := H8.out.bel.2.2.1.inj (g1 rfl) (HMEM.out hll) rfl
                      exact (Prod.mk.inj this).2
                    subst hval
                    clear g1 g2
                    have HKE := Lib.hid (two_key H8.out.symm val (by omega))
                    go_wp2_with fail
                    refine HKE.out.mono ?_
                    rintro e w9 ⟨rfl, hb9⟩
                    have H9 := Lib.hid (H8.out.below hb9); clear hb9 HKE
                    have HGE := Lib.hid (two_get H9.out.symm (by omega) (casKey wd val))
                    go_wp2_with fail
                    refine HGE.out.mono ?_
                    rintro e w10 ⟨val2, bb, rfl, g1, g2, g3⟩
                    have H10 := Lib.hid (H9.out.below g3); clear g3 HGE
                    cases bb
                    · exact absurd (HMEM.out hll) ((g2 rfl).2 val)
                    · have hval : val2 = val := by
                        have := H10.out.bel.2.2.1.inj (g1 rfl) (HMEM.out hll) rfl
                        exact (Prod.mk.inj this).2
                      subst hval
                      clear g1 g2 h1
                      unfold strV
                      go_wp2_with fail
                      go_roundw
                      case rel => exact ⟨j + 1, by omega, by go_num, H10.out⟩
                      case measure => simp [intOf]; omega
              · have HLE := Lib.hid (two_len HJ.out)
                go_wp2_with fail
                refine HLE.out.mono ?_
                rintro e w7 ⟨rfl, rfl⟩
                have HLE := Lib.hid (two_len HJ.out.symm)
                go_wp2_with fail
                refine HLE.out.mono ?_
                rintro e w7 ⟨rfl, rfl⟩
                go_wp2
                go_ret
                exact ⟨by simp, HJ.out.bel.1⟩
    · clear hg
      go_wp2
      go_ret
      exact ⟨rfl, HB1.out⟩
end Go.Proofs.Ytipindjchcmckaa
