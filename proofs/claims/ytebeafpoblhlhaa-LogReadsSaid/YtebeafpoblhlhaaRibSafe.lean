/- DERIVED. The walk of RibbonSafe. -/
import Derived.Test.YtebeafpoblhlhaaRibCuts
import Derived.StillTailTactics
namespace Go.Proofs.Ytebeafpoblhlhaa
open Go.RowKit
set_option linter.unusedVariables false

/-- A slice of slices of bytes, element by element. -/
def RdRows (w : World) (a : Option Addr) (ls : List (List UInt8)) : Prop :=
  ls ≠ [] → ∃ b o, a = some ⟨b, o, none⟩ ∧ ∀ i l, ls[i]? = some l → ∃ ai ci, w.cell? ⟨b, o + i, none⟩ = some (.slice ai l.length ci) ∧ Rd w (.slice ai l.length ci) (bytesV l) ∧ l.length ≤ 140737488351232
theorem RdRows.below {w w' : World} {a : Option Addr} {ls : List (List UInt8)} (h : RdRows w a ls) (hb : Below w.heap.size w w') : RdRows w' a ls := by
  intro hne
  obtain ⟨b, o, h1, h2⟩ := h hne
  refine ⟨b, o, h1, fun i l hi => ?_⟩
  obtain ⟨ai, ci, h3, h4, h5⟩ := h2 i l hi
  exact ⟨ai, ci, below_keeps hb _ _ h3, h4.below hb, h5⟩
def flatLen (ls : List (List UInt8)) : Nat := ls.flatten.length
theorem flat_take (ls : List (List UInt8)) (k : Nat) (l : List UInt8) (h : ls[k]? = some l) : (ls.take (k + 1)).flatten = (ls.take k).flatten ++ l := by
  have hk : k < ls.length := (List.getElem?_eq_some_iff.1 h).1
  rw [List.take_succ_eq_append_getElem hk, List.flatten_append]
  have : ls[k] = l := (List.getElem?_eq_some_iff.1 h).2
  rw [this]; simp
theorem flat_le (ls : List (List UInt8)) (k : Nat) : (ls.take k).flatten.length ≤ ls.flatten.length := by
  conv => rhs; rw [← List.take_append_drop k ls, List.flatten_append, List.length_append]
  omega
/-- The state behind k pieces. -/
structure SafeSt (ls : List (List UInt8)) (k : Nat) (s : RibSt) : Prop where
  all : s.safe ++ s.waits = [102, 105, 114, 115, 116] ++ (ls.take k).flatten
  off : s.off = false
  inn : s.inn = 0
  acts : 0 ≤ s.acts ∧ s.acts ≤ 2 * k
theorem acted_plain (s : RibSt) (h : s.inn = 0) : s.acted = { s with acts := s.acts + 1 } := by
  unfold RibSt.acted; rw [if_neg (by omega)]
theorem wrote_plain (s : RibSt) (b : List UInt8) (ho : s.off = false) (hi : s.inn = 0) (hl : s.safe.length + s.waits.length + b.length ≤ 1048576) : s.wrote b = (0, { s with waits := s.waits ++ b, acts := s.acts + 1 }) := by
  unfold RibSt.wrote
  rw [if_neg (by simp [ho]), if_neg (by omega), acted_plain _ (by exact hi)]
  simp [ho]
theorem flushed_plain (s : RibSt) (ho : s.off = false) (hi : s.inn = 0) : s.flushed = (0, { s with safe := s.safe ++ s.waits, waits := [], acts := s.acts + 1 }) := by
  unfold RibSt.flushed
  rw [if_neg (by simp [ho]), acted_plain _ hi]
  simp [ho]
theorem SafeSt.len {ls : List (List UInt8)} {k : Nat} {s : RibSt} (h : SafeSt ls k s) : s.safe.length + s.waits.length = 5 + (ls.take k).flatten.length := by
  have := congrArg List.length h.all
  rw [List.length_append, List.length_append] at this
  exact this
theorem SafeSt.wrote {ls : List (List UInt8)} {k : Nat} {s : RibSt} {l : List UInt8} (h : SafeSt ls k s) (hl : ls[k]? = some l) : SafeSt ls (k + 1) { s with waits := s.waits ++ l, acts := s.acts + 1 } :=
  ⟨by rw [flat_take ls k l hl, ← List.append_assoc, ← List.append_assoc, h.all], h.off, h.inn, by have := h.acts; constructor <;> (simp only []; omega)⟩
theorem SafeSt.flushed {ls : List (List UInt8)} {k : Nat} {s : RibSt} {l : List UInt8} (h : SafeSt ls k s) (hl : ls[k]? = some l) : SafeSt ls (k + 1) { s with safe := s.safe ++ (s.waits ++ l), waits := [], acts := s.acts + 1 + 1 } :=
  ⟨by rw [flat_take ls k l hl, List.append_nil, ← List.append_assoc, ← List.append_assoc, h.all], h.off, h.inn, by have := h.acts; constructor <;> (simp only []; omega)⟩

theorem rd_lit (w : World) (l : List UInt8) (C : Array Value) (t : TypeId) (fr : Nat × Nat) (hC : C = (bytesV l).toArray) : Rd (w.alloc (.cells C t fr)) (.slice (some ⟨w.heap.size, 0, none⟩) l.length l.length) (bytesV l) := by
  refine ⟨some ⟨w.heap.size, 0, none⟩, l.length, by rw [bytesV_length], by rw [bytesV_length]; exact Nat.le_refl _, fun h => (Option.some_ne_none _ h).elim, fun ad e => ?_⟩
  obtain rfl := Option.some.inj e
  intro j u hj
  rw [Addr.add_lit, cell_of_heap (heap_alloc_new w _), Nat.zero_add, hC]
  rw [← List.getElem?_toArray] at hj
  exact hj
theorem str_split (A : ByteArray) (l m : List UInt8) (k : Nat) (h : A.data.toList = l ++ m) (hk : k = l.length) : A.extract 0 k = ⟨l.toArray⟩ := by
  have : A = ⟨(l ++ m).toArray⟩ := by rw [← h]
  rw [this, str_take, hk, List.take_left]
theorem offed_to (s : RibSt) (keep : Int) (n : Nat) (l : List UInt8) (ho : s.off = false) (hn : s.kept keep = n) (hl : s.safe ++ s.waits.take n = l) : s.offed keep = { safe := l, waits := [], off := true, acts := s.acts, inn := 0, keep := s.keep } := by
  rw [offed_safe s keep n ho hn, hl]
theorem Own.after {B : Nat} {w0 w : World} {R : Nat} {s : RibSt} (h : Own B w0 R s w) : B ≤ w.heap.size := by
  obtain ⟨_, _, _, _, _, h4⟩ := h
  exact h4
set_option maxHeartbeats 4000000 in
theorem safe_any (w : World) (a : Option Addr) (c : Nat) (ls : List (List UInt8)) (hr : RdRows w a ls) (hm : ls.length ≤ 140737488351232) (fl keep : Int) :
    Calls Try.prog 4 #[.slice a ls.length c, .int .i64 fl, .int .i64 keep] w fun e w' => e = .returned (.bool true) ∧ Below w.heap.size w w' := by
  have kc := fun (w : World) (C : Array Value) (n c : Nat) => Lib.run_convert_bytes_const (P := Try.prog) w 22 5 C n c Try.underlying22 Try.underlying5
  have HR := Lib.hid hr; clear hr
  go_enter Try.func4, Try.ntmps4
  go_wp2_with fail
  refine (alive_any _).mono ?_
  rintro e w1 ⟨rfl, hb1⟩
  have HB1 := Lib.hid hb1
  have HR1 := Lib.hid (HR.out.below hb1); clear hb1
  go_wp2_with fail
  go_loop [7, 22] (fun x i => ∃ k : Nat, k ≤ ls.length ∧ i = .int .i64 k ∧ x = .int .i64 ((ls.take k).flatten.length : Nat) ∧ (ls.take k).flatten.length ≤ 65536) (fun _ i => ls.length - (intOf i).toNat)
  case atStart => exact ⟨0, Nat.zero_le _, rfl, by simp, by simp⟩
  case round =>
    obtain ⟨k, hk, rfl, rfl, hle⟩ := hrel
    by_cases hlt : k < ls.length
    · obtain ⟨b, o, rfl, hcell⟩ := HR1.out (by intro e; rw [e] at hlt; exact absurd hlt (Nat.not_lt_zero _))
      obtain ⟨l, hl⟩ : ∃ l, ls[k]? = some l := ⟨_, List.getElem?_eq_getElem hlt⟩
      obtain ⟨ai, ci, h1, h2, h3⟩ := hcell k l hl
      have hft := flat_take ls k l hl
      obtain ⟨n, hn⟩ : ∃ n, n = (ls.take k).flatten.length := ⟨_, rfl⟩
      rw [← hn] at hle ⊢
      have hn2 : (ls.take (k + 1)).flatten.length = n + l.length := by rw [hft, List.length_append, ← hn]
      have HN := Lib.hid hn; have HN2 := Lib.hid hn2; have HL := Lib.hid hl
      clear hcell hft hn hn2 hl
      by_cases hbig : 65536 < n + l.length
      · go_wp2
        go_ret
        exact ⟨rfl, HB1.out⟩
      · go_wp2
        go_round
        case rel => exact ⟨k + 1, by omega, by go_num, by rw [HN2.out]; go_num, by rw [HN2.out]; omega⟩
        case measure => simp [intOf]; omega
    · obtain rfl : k = ls.length := by omega
      rw [List.take_length] at hle ⊢
      have HLE := Lib.hid hle; clear hle
      by_cases h60 : 60 < ls.length
      · go_wp2
        go_ret
        exact ⟨rfl, HB1.out⟩
      · have hnew := fun W => own_new W (.slice (some ⟨w1.heap.size, 0, none⟩) 5 5) [102, 105, 114, 115, 116]
        go_wp2_with fail
        refine (own_new _ _ [102, 105, 114, 115, 116] (rd_lit w1 [102, 105, 114, 115, 116] _ _ _ rfl) (by decide)).mono ?_
        rintro e w2 ⟨R, rfl, o2⟩
        rw [new_small _ (by decide)] at o2
        have hb2 : Below w1.heap.size w1 w2 := ((Below.refl _ w1).alloc (Nat.le_refl _) _).trans ((own_of o2).mono (by simp))
        have o2' : Own w1.heap.size w1 R { safe := [102, 105, 114, 115, 116], waits := [], off := false, acts := 0, inn := 0, keep := 0 } w2 := by
          obtain ⟨vs, vw, q1, q2, _, _⟩ := o2
          exact ⟨vs, vw, q1, fun k hk => by have := q2 k hk; simp at this; omega, hb2, hb2.size⟩
        have O2 := Lib.hid o2'; clear o2 o2' hb2 hnew
        go_wp2_with fail
        go_loopw [11, 12, 41] (fun x y i wr => ∃ (k : Nat) (s : RibSt) (A : ByteArray), k ≤ ls.length ∧ i = .int .i64 k ∧ x = .string A ∧ y = .int .i64 (s.safe.length : Nat) ∧ Hid (A.data.toList = [102, 105, 114, 115, 116] ++ (ls.take k).flatten) ∧ A.size ≤ 65541 ∧ s.safe.length ≤ 65541 ∧ Hid (SafeSt ls k s) ∧ Hid (Own w1.heap.size w1 R s wr)) (fun _ _ i _ => ls.length - (intOf i).toNat)
        case atStart => exact ⟨0, _, _, Nat.zero_le _, rfl, rfl, rfl, rfl, by decide, by decide, ⟨rfl, rfl, rfl, by decide, by decide⟩, O2.out⟩
        case round =>
          obtain ⟨k, s, A, hk, rfl, rfl, rfl, hA, hAs, hss, hS, hO⟩ := hrel
          by_cases hlt : k < ls.length
          · obtain ⟨b, o, rfl, hcell⟩ := HR1.out (by intro e; rw [e] at hlt; exact absurd hlt (Nat.not_lt_zero _))
            obtain ⟨l, hl⟩ : ∃ l, ls[k]? = some l := ⟨_, List.getElem?_eq_getElem hlt⟩
            obtain ⟨ai, ci, h0, h2, h3⟩ := hcell k l hl
            have h1 := below_keeps (own_of hO.out) _ _ h0
            have hft := flat_take ls k l hl
            have hfl := flat_le ls (k + 1)
            rw [hft, List.length_append] at hfl
            have hsl := hS.out.len
            have hle := HLE.out
            have hlen : s.safe.length + s.waits.length + l.length ≤ 65541 := by omega
            have hw := wrote_plain s l hS.out.off hS.out.inn (by omega)
            have hA2 : (A ++ ⟨l.toArray⟩).data.toList = [102, 105, 114, 115, 116] ++ (ls.take (k + 1)).flatten := by
              rw [ByteArray.data_append, Array.toList_append, hA.out, hft, List.append_assoc]
            have hAs2 : (A ++ ⟨l.toArray⟩).size = A.size + l.length := by rw [ByteArray.size_append]; congr 1
            have hAsz : A.size + l.length ≤ 65541 := by
              have : A.size = A.data.toList.length := by simp
              rw [this, hA.out, List.length_append]; simp only [List.length_cons, List.length_nil]; omega
            obtain ⟨A2, hA2e⟩ : ∃ A2, A2 = A ++ ⟨l.toArray⟩ := ⟨_, rfl⟩
            rw [← hA2e] at hA2 hAs2
            have HW := Lib.hid hw; have HA2 := Lib.hid hA2; have HAS2 := Lib.hid hAs2; have HA2E := Lib.hid hA2e; have HL := Lib.hid hl; have H2 := Lib.hid h2; have HAC := Lib.hid hS.out.acts
            clear hcell hft hfl hsl hle hw hA2 hAs2 hA2e hl h2
            have hA2s : A2.size ≤ 65541 := by rw [HAS2.out]; exact hAsz
            have hA2q : A ++ ⟨l.toArray⟩ = A2 := HA2E.out.symm
            have HAQ := Lib.hid hA2q; clear hA2q h0
            by_cases hf : fl = k
            · have hfb : ((k : Int) == fl) = true := by simp [hf]
              have HF := Lib.hid hf; clear hf
              go_wp2_with fail
              refine (own_write_to hO.out (by have := HAC.out; omega) _ l (H2.out.below (own_of hO.out)) 0 _ HW.out).mono ?_
              rintro e w3 ⟨rfl, o3⟩
              have hcv := conv_at (H2.out.below (own_of o3))
              have O3 := Lib.hid o3; clear o3
              go_wp2_with fail
              rw [HAQ.out]
              clear hcv
              have hlen2 : s.safe.length + (s.waits.length + l.length) ≤ 65541 := by omega
              refine (own_flush_to O3.out (by have := HAC.out; show s.acts + 1 < _; omega) 0 _ (flushed_plain _ hS.out.off hS.out.inn)).mono ?_
              rintro e w4 ⟨rfl, o4⟩
              have hfe := hS.out.flushed HL.out
              have hsz : A2.size = (s.safe ++ (s.waits ++ l)).length := by
                rw [HAS2.out, List.length_append, List.length_append]
                have e1 : A.size = A.data.toList.length := by simp
                have e2 := hS.out.len
                rw [e1, hA.out, List.length_append]
                show 5 + _ + _ = _
                omega
              have HSZ := Lib.hid hsz; have HFE := Lib.hid hfe; have O4 := Lib.hid o4; clear hsz hfe o4
              go_wp2
              go_roundw
              case rel => exact ⟨k + 1, _, A2, by omega, by go_num, rfl, by rw [HSZ.out], HA2.out, hA2s, by show (s.safe ++ (s.waits ++ l)).length ≤ _; rw [List.length_append, List.length_append]; exact hlen2, HFE.out, O4.out⟩
              case measure => simp [intOf]; omega
            · have hfb : ((k : Int) == fl) = false := by simp; omega
              have HF := Lib.hid hf; clear hf
              go_wp2_with fail
              refine (own_write_to hO.out (by have := HAC.out; omega) _ l (H2.out.below (own_of hO.out)) 0 _ HW.out).mono ?_
              rintro e w3 ⟨rfl, o3⟩
              have hcv := conv_at (H2.out.below (own_of o3))
              have O3 := Lib.hid o3; clear o3
              have HFE := Lib.hid (hS.out.wrote HL.out)
              go_wp2_with fail
              go_roundw
              case rel => exact ⟨k + 1, { s with waits := s.waits ++ l, acts := s.acts + 1 }, A2, by omega, by go_num, by rw [HAQ.out], rfl, HA2.out, hA2s, hss, HFE.out, O3.out⟩
              case measure => simp [intOf]; omega
          · obtain rfl : k = ls.length := by omega
            rw [List.take_length] at hA
            have hsl := hS.out.len
            rw [List.take_length] at hsl
            have hAz : A.size = s.safe.length + s.waits.length := by
              have : A.size = A.data.toList.length := by simp
              rw [this, hA.out, List.length_append, hsl]; rfl
            have hwl : s.waits.length ≤ 65541 := by omega
            have hall : A.data.toList = s.safe ++ s.waits := by rw [hA.out, hS.out.all, List.take_length]
            have HALL := Lib.hid hall; have HAC := Lib.hid hS.out.acts
            clear hsl hall hAs
            rcases kept_cases s keep with ⟨hkk, hkp, hle⟩ | ⟨n, rfl, hkp, hle⟩ | ⟨hk0, hkk, hkp, hle⟩
            · obtain ⟨l, hl⟩ : ∃ l, l = s.safe := ⟨_, rfl⟩
              have hlm : l.length = s.safe.length := by rw [hl]
              have hoff := offed_to s _ _ l hS.out.off hkp (by rw [hl]; simp)
              have hex : A.extract 0 (s.safe.length) = ⟨l.toArray⟩ := str_split A l s.waits _ (by rw [HALL.out, hl]) (by rw [hlm])
              have hmA : s.safe.length ≤ A.size := by rw [hAz]; omega
              have hcut : ({ safe := l, waits := [], off := false, acts := s.acts, inn := 0, keep := s.keep } : RibSt).cutted (s.safe.length : Nat) = (0, { safe := l.take s.safe.length, waits := [], off := false, acts := s.acts + 1, inn := 0, keep := s.keep }) := by
                unfold RibSt.cutted
                rw [if_neg (by simp), if_neg (by simp only [List.length_nil]; omega), acted_plain _ rfl]
                simp
              have HOFF := Lib.hid hoff; have HLM := Lib.hid hlm; have HEX := Lib.hid hex; have HCUT := Lib.hid hcut; have HMA := Lib.hid hmA; clear hmA hoff hkp hlm hex hl hcut
              go_wp2_with fail
              refine (own_off_to hO.out _ _ HOFF.out).mono ?_
              rintro e w3 ⟨rfl, o3⟩
              have O3 := Lib.hid o3; clear o3
              go_wp2_with fail
              refine (own_down O3.out).mono ?_
              rintro e w' ⟨rfl, rfl⟩
              go_wp2_with fail
              refine (own_flush_to O3.out (by have := HAC.out; show s.acts < _; omega) 70 _ rfl).mono ?_
              rintro e w4 ⟨rfl, o4⟩
              have O4 := Lib.hid o4; clear o4
              go_wp2_with fail
              refine (own_on_to O4.out { safe := l, waits := [], off := false, acts := s.acts, inn := 0, keep := s.keep } rfl).mono ?_
              rintro e w5 ⟨rfl, o5⟩
              have O5 := Lib.hid o5; clear o5
              go_wp2_with fail
              have hrd := own_read_to O5.out rfl l (List.append_nil _)
              rw [HLM.out] at hrd
              refine hrd.mono ?_
              clear hrd
              rintro e w6 ⟨ax, cx, rfl, hw, o6, hb6⟩
              have hcx : (convert 22 9 (.slice ax (s.safe.length) cx)).run Try.prog w6.drew = .ok (.string (A.extract 0 (s.safe.length))) w6.drew := by
                rw [HEX.out, ← HLM.out]
                rw [← HLM.out] at hw
                exact conv_at (w := w6.drew) (Rd.of_owns hw)
              have O6 := Lib.hid (o6.drewN 1); clear o6 hw hb6
              go_wp2_with fail
              have hmA := HMA.out
              clear hAz
              go_still_tail 13, (by kernel_rfl)
              change wpList _ _ _ _ _ w6.drew
              go_wp2_with fail
              refine (own_cut_to (w := w6.drew) O6.out (by have := HAC.out; show s.acts < _; omega) _ 0 _ HCUT.out).mono ?_
              rintro e w7 ⟨rfl, o7⟩
              have O7 := Lib.hid o7; clear o7
              go_wp2
              go_ret
              exact ⟨rfl, HB1.out.trans ((own_of O7.out).mono HB1.out.size)⟩
            · obtain ⟨l, hl⟩ : ∃ l, l = s.safe ++ s.waits.take n := ⟨_, rfl⟩
              have hlm : l.length = s.safe.length + n := by rw [hl]; rw [List.length_append, List.length_take]; omega
              have hoff := offed_to s _ _ l hS.out.off hkp hl.symm
              have hex : A.extract 0 (s.safe.length + n) = ⟨l.toArray⟩ := str_split A l (s.waits.drop n) _ (by rw [HALL.out, hl]; simp) (by rw [hlm])
              have hmA : s.safe.length + n ≤ A.size := by rw [hAz]; omega
              have hcut : ({ safe := l, waits := [], off := false, acts := s.acts, inn := 0, keep := s.keep } : RibSt).cutted (s.safe.length : Nat) = (0, { safe := l.take s.safe.length, waits := [], off := false, acts := s.acts + 1, inn := 0, keep := s.keep }) := by
                unfold RibSt.cutted
                rw [if_neg (by simp), if_neg (by simp only [List.length_nil]; omega), acted_plain _ rfl]
                simp
              have HOFF := Lib.hid hoff; have HLM := Lib.hid hlm; have HEX := Lib.hid hex; have HCUT := Lib.hid hcut; have HMA := Lib.hid hmA; clear hmA hoff hkp hlm hex hl hcut
              go_wp2_with fail
              refine (own_off_to hO.out _ _ HOFF.out).mono ?_
              rintro e w3 ⟨rfl, o3⟩
              have O3 := Lib.hid o3; clear o3
              go_wp2_with fail
              refine (own_down O3.out).mono ?_
              rintro e w' ⟨rfl, rfl⟩
              go_wp2_with fail
              refine (own_flush_to O3.out (by have := HAC.out; show s.acts < _; omega) 70 _ rfl).mono ?_
              rintro e w4 ⟨rfl, o4⟩
              have O4 := Lib.hid o4; clear o4
              go_wp2_with fail
              refine (own_on_to O4.out { safe := l, waits := [], off := false, acts := s.acts, inn := 0, keep := s.keep } rfl).mono ?_
              rintro e w5 ⟨rfl, o5⟩
              have O5 := Lib.hid o5; clear o5
              go_wp2_with fail
              have hrd := own_read_to O5.out rfl l (List.append_nil _)
              rw [HLM.out] at hrd
              refine hrd.mono ?_
              clear hrd
              rintro e w6 ⟨ax, cx, rfl, hw, o6, hb6⟩
              have hcx : (convert 22 9 (.slice ax (s.safe.length + n) cx)).run Try.prog w6.drew = .ok (.string (A.extract 0 (s.safe.length + n))) w6.drew := by
                rw [HEX.out, ← HLM.out]
                rw [← HLM.out] at hw
                exact conv_at (w := w6.drew) (Rd.of_owns hw)
              have O6 := Lib.hid (o6.drewN 1); clear o6 hw hb6
              go_wp2_with fail
              have hmA := HMA.out
              clear hAz
              obtain ⟨m, hm⟩ : ∃ m : Nat, m = s.safe.length + n := ⟨_, rfl⟩
              rw [← hm] at hcx hmA
              rw [show ((s.safe.length : Int) + (n : Int)) = (m : Int) from by omega, ← hm]
              have HM := Lib.hid hm; clear hm
              go_still_tail 13, (by kernel_rfl)
              change wpList _ _ _ _ _ w6.drew
              go_wp2_with fail
              refine (own_cut_to (w := w6.drew) O6.out (by have := HAC.out; show s.acts < _; omega) _ 0 _ HCUT.out).mono ?_
              rintro e w7 ⟨rfl, o7⟩
              have O7 := Lib.hid o7; clear o7
              go_wp2
              go_ret
              exact ⟨rfl, HB1.out.trans ((own_of O7.out).mono HB1.out.size)⟩
            · obtain ⟨l, hl⟩ : ∃ l, l = s.safe ++ s.waits := ⟨_, rfl⟩
              have hlm : l.length = s.safe.length + s.waits.length := by rw [hl]; rw [List.length_append]
              have hoff := offed_to s _ _ l hS.out.off hkp (by rw [hl, List.take_length])
              have hex : A.extract 0 (s.safe.length + s.waits.length) = ⟨l.toArray⟩ := str_split A l [] _ (by rw [HALL.out, hl]; simp) (by rw [hlm])
              have hmA : s.safe.length + s.waits.length ≤ A.size := by rw [hAz]; omega
              have hcut : ({ safe := l, waits := [], off := false, acts := s.acts, inn := 0, keep := s.keep } : RibSt).cutted (s.safe.length : Nat) = (0, { safe := l.take s.safe.length, waits := [], off := false, acts := s.acts + 1, inn := 0, keep := s.keep }) := by
                unfold RibSt.cutted
                rw [if_neg (by simp), if_neg (by simp only [List.length_nil]; omega), acted_plain _ rfl]
                simp
              have HOFF := Lib.hid hoff; have HLM := Lib.hid hlm; have HEX := Lib.hid hex; have HCUT := Lib.hid hcut; have HMA := Lib.hid hmA; clear hmA hoff hkp hlm hex hl hcut
              go_wp2_with fail
              refine (own_off_to hO.out _ _ HOFF.out).mono ?_
              rintro e w3 ⟨rfl, o3⟩
              have O3 := Lib.hid o3; clear o3
              go_wp2_with fail
              refine (own_down O3.out).mono ?_
              rintro e w' ⟨rfl, rfl⟩
              go_wp2_with fail
              refine (own_flush_to O3.out (by have := HAC.out; show s.acts < _; omega) 70 _ rfl).mono ?_
              rintro e w4 ⟨rfl, o4⟩
              have O4 := Lib.hid o4; clear o4
              go_wp2_with fail
              refine (own_on_to O4.out { safe := l, waits := [], off := false, acts := s.acts, inn := 0, keep := s.keep } rfl).mono ?_
              rintro e w5 ⟨rfl, o5⟩
              have O5 := Lib.hid o5; clear o5
              go_wp2_with fail
              have hrd := own_read_to O5.out rfl l (List.append_nil _)
              rw [HLM.out] at hrd
              refine hrd.mono ?_
              clear hrd
              rintro e w6 ⟨ax, cx, rfl, hw, o6, hb6⟩
              have hcx : (convert 22 9 (.slice ax (s.safe.length + s.waits.length) cx)).run Try.prog w6.drew = .ok (.string (A.extract 0 (s.safe.length + s.waits.length))) w6.drew := by
                rw [HEX.out, ← HLM.out]
                rw [← HLM.out] at hw
                exact conv_at (w := w6.drew) (Rd.of_owns hw)
              have O6 := Lib.hid (o6.drewN 1); clear o6 hw hb6
              go_wp2_with fail
              rw [show ((s.safe.length : Int) + ((s.safe.length : Int) + (s.waits.length : Int) - (s.safe.length : Int))) = (s.safe.length : Int) + (s.waits.length : Int) from by omega]
              have hmA := HMA.out
              clear hAz
              obtain ⟨m, hm⟩ : ∃ m : Nat, m = s.safe.length + s.waits.length := ⟨_, rfl⟩
              rw [← hm] at hcx hmA
              rw [show ((s.safe.length : Int) + (s.waits.length : Int)) = (m : Int) from by omega, ← hm]
              have HM := Lib.hid hm; clear hm
              go_still_tail 13, (by kernel_rfl)
              change wpList _ _ _ _ _ w6.drew
              go_wp2_with fail
              refine (own_cut_to (w := w6.drew) O6.out (by have := HAC.out; show s.acts < _; omega) _ 0 _ HCUT.out).mono ?_
              rintro e w7 ⟨rfl, o7⟩
              have O7 := Lib.hid o7; clear o7
              go_wp2
              go_ret
              exact ⟨rfl, HB1.out.trans ((own_of O7.out).mono HB1.out.size)⟩
end Go.Proofs.Ytebeafpoblhlhaa
