/- DERIVED. The walks of package log: split, Frame, Same, Count. -/
import Derived.Test.YtebeafpoblhlhaaRibSafe
import Derived.Test.YtebeafpoblhlhaaMemTwo
import Derived.Test.YtebeafpoblhlhaaLogMath
import Derived.Test.YtebeafpoblhlhaaRibNil
import Derived.Test.YtebeafpoblhlhaaRibOpen
import Derived.Laws.BitsAllLaws
namespace Go.Proofs.Ytebeafpoblhlhaa
open Go.RowKit
set_option linter.unusedVariables false

def strV (l : List UInt8) : Value := .string ⟨l.toArray⟩
def strsV (ls : List (List UInt8)) : List Value := ls.map strV
theorem strsV_length (ls : List (List UInt8)) : (strsV ls).length = ls.length := by simp [strsV]
theorem strsV_one (ls : List (List UInt8)) : ∀ u ∈ strsV ls, u.oneCell' = true := by
  intro u hu
  obtain ⟨_, _, rfl⟩ := List.mem_map.1 hu
  rfl
theorem strV_inj {a b : List UInt8} : strV a = strV b ↔ a = b := by simp [strV]
theorem info9 : (Try.prog.info? 9).map (fun i => (i.zero, i.size, i.bytes)) = some (some (.string ByteArray.empty), 1, 16) := by kernel_rfl

set_option maxHeartbeats 1000000 in
theorem frame_any (w : World) (s : List UInt8) (hs : s.length ≤ 65536) :
    Calls Try.prog 27 #[.string ⟨s.toArray⟩] w fun e w' => e = .returned (.string ⟨(frame s).toArray⟩) ∧ Below w.heap.size w w' := by
  have hc : (convert 22 9 (.slice (some ⟨w.heap.size, 0, none⟩) 3 3)).run Try.prog (w.alloc (.cells #[.int .u8 ((s.length : Int) / 65536), .int .u8 ((s.length : Int) / 256 % 256), .int .u8 ((s.length : Int) % 256)] 5)) = .ok (.string ⟨(headOf s.length).toArray⟩) (w.alloc (.cells #[.int .u8 ((s.length : Int) / 65536), .int .u8 ((s.length : Int) / 256 % 256), .int .u8 ((s.length : Int) % 256)] 5)) := by
    refine conv_rd (P := Try.prog) Try.underlying22 Try.underlying5 Try.underlying9 (rd_lit w (headOf s.length) _ _ _ ?_)
    simp only [headOf, bytesV, List.map_cons, List.map_nil, UInt8.toNat_ofNat']
    congr <;> omega
  obtain ⟨A, hA⟩ : ∃ A : ByteArray, A = ⟨(frame s).toArray⟩ := ⟨_, rfl⟩
  have hAs : A.size = 3 + s.length := by rw [hA, str_size, frame_length]
  have hAp : (⟨(headOf s.length).toArray⟩ : ByteArray) ++ ⟨s.toArray⟩ = A := by rw [str_append, hA]; rfl
  rw [← hA]; clear hA
  have hh : (headOf s.length).length = 3 := rfl
  go_enter Try.func27, Try.ntmps27
  go_wp2_with fail
  go_ret
  exact ⟨rfl, (Below.refl _ w).alloc (Nat.le_refl _) _⟩
/-- A list of strings that is read. -/
def RdStrs (w : World) (a : Option Addr) (ls : List (List UInt8)) : Prop :=
  ls ≠ [] → ∃ b o, a = some ⟨b, o, none⟩ ∧ ∀ i l, ls[i]? = some l → w.cell? ⟨b, o + i, none⟩ = some (.string ⟨l.toArray⟩)
theorem RdStrs.below {w w' : World} {a : Option Addr} {ls : List (List UInt8)} (h : RdStrs w a ls) (hb : Below w.heap.size w w') : RdStrs w' a ls := by
  intro hne
  obtain ⟨b, o, h1, h2⟩ := h hne
  exact ⟨b, o, h1, fun i l hi => below_keeps hb _ _ (h2 i l hi)⟩
theorem RdStrs.of_owns {w : World} {base n c : Nat} {a : Option Addr} {e : TypeId} {ls : List (List UInt8)} (h : w.ownsRow base e 1 (.slice a n c) n (strsV ls)) : RdStrs w a ls := by
  intro hne
  rcases h.2 with ⟨e1, e2⟩ | ⟨g, cap, cur, e1, _, hg, _, _, _, ht⟩
  · have h1 := h.1
    rw [e2, strsV_length] at h1
    exact absurd (List.eq_nil_of_length_eq_zero (by omega)) hne
  · obtain ⟨rfl, _, _⟩ := Value.slice.inj e1
    refine ⟨g, 0, rfl, fun i l hi => ?_⟩
    rw [cell_of_heap hg]
    have hj : (strsV ls)[i]? = some (strV l) := by simp [strsV, hi]
    rw [Nat.mul_one] at ht
    rw [← ht, List.getElem?_take] at hj
    split at hj
    · rw [Nat.zero_add, ← Array.getElem?_toList]; exact hj
    · cases hj
set_option maxHeartbeats 1000000 in
theorem same_any (w : World) (a : Option Addr) (c : Nat) (ls : List (List UInt8)) (b : Option Addr) (d : Nat) (ms : List (List UInt8)) (ha : RdStrs w a ls) (hb : RdStrs w b ms) (hl : ls.length ≤ 140737488351232) (he : ls = ms) :
    Calls Try.prog 29 #[.slice a ls.length c, .slice b ms.length d] w fun e w' => e = .returned (.bool true) ∧ Below w.heap.size w w' := by
  subst he
  have HA := Lib.hid ha; have HB := Lib.hid hb; clear ha hb
  go_enter Try.func29, Try.ntmps29
  go_wp2_with fail
  go_loopw [5, 13] (fun x i wr => ∃ (k : Nat), k ≤ ls.length ∧ i = .int .i64 k ∧ Hid (Below w.heap.size w wr)) (fun _ i _ => ls.length - (intOf i).toNat)
  case atStart => exact ⟨0, Nat.zero_le _, rfl, Below.refl _ _⟩
  case round =>
    obtain ⟨k, hk, rfl, hbl⟩ := hrel
    by_cases hlt : k < ls.length
    · have hne : ls ≠ [] := by intro e; rw [e] at hlt; exact absurd hlt (Nat.not_lt_zero _)
      obtain ⟨ba, oa, rfl, hca⟩ := (HA.out.below hbl.out) hne
      obtain ⟨bb, ob, rfl, hcb⟩ := (HB.out.below hbl.out) hne
      obtain ⟨l, hl'⟩ : ∃ l, ls[k]? = some l := ⟨_, List.getElem?_eq_getElem hlt⟩
      have h1 := hca k l hl'
      have h2 := hcb k l hl'
      clear hca hcb hl'
      go_wp2_with fail
      go_quiet (fail)
      go_wp2_with fail
      go_roundw
      case rel => exact ⟨k + 1, by omega, by go_num, Below.drewN hbl.out _⟩
      case measure => simp [intOf]; omega
    · go_wp2
      go_ret
      exact ⟨rfl, hbl.out⟩
theorem Rd.at {w : World} {a : Option Addr} {l c : Nat} {b : List UInt8} (h : Rd w (.slice a l c) (bytesV b)) (h0 : 0 < b.length) :
    ∃ bk o, a = some ⟨bk, o, none⟩ ∧ ∀ (j : Nat) (x : UInt8), b[j]? = some x → w.cell? ⟨bk, o + j, none⟩ = some (.int .u8 x.toNat) := by
  obtain ⟨a', cap, e, h1, h2, h3⟩ := h
  obtain ⟨rfl, rfl, rfl⟩ := Value.slice.inj e
  rw [bytesV_length] at h1
  cases a with
  | none => have := h2 rfl; omega
  | some ad =>
    have key : ∀ (j : Nat) (x : UInt8), b[j]? = some x → w.cell? (ad.add j) = some (.int .u8 x.toNat) := fun j x hj => h3 ad rfl j _ (by simp [bytesV, hj])
    have hs : ad.spot = none := by
      have := key 0 _ (List.getElem?_eq_getElem h0)
      rw [show ad.add 0 = ad from by simp [Addr.add]] at this
      exact cell_spot this
    obtain ⟨bk, o, s⟩ := ad
    simp only at hs; subst hs
    exact ⟨bk, o, rfl, fun j x hj => by have := key j x hj; rwa [Addr.add_lit] at this⟩
theorem mid_get (P X Q : List UInt8) (j : Nat) (hj : j < X.length) : (P ++ X ++ Q)[P.length + j]? = X[j]? := by
  rw [List.append_assoc, List.getElem?_append_right (by omega), Nat.add_sub_cancel_left, List.getElem?_append_left hj]
theorem i64_or_nat (a b : Nat) (ha : a < 4294967296) (hb : b < 4294967296) : bits .or .i64 (a : Int) (b : Int) = ((a ||| b : Nat) : Int) := by
  have hx : a ||| b < 2 ^ 32 := Nat.or_lt_two_pow (by omega) (by omega)
  show IntKind.i64.wrap ((BitVec.ofInt 64 (a : Int) ||| BitVec.ofInt 64 (b : Int)).toNat : Int) = _
  rw [BitVec.toNat_or]
  have h1 : (BitVec.ofInt 64 (a : Int)).toNat = a := by rw [BitVec.toNat_ofInt]; omega
  have h2 : (BitVec.ofInt 64 (b : Int)).toNat = b := by rw [BitVec.toNat_ofInt]; omega
  rw [h1, h2, IntKind.wrap_i64]
  omega
theorem or_sum (a b i m : Nat) (hm : m = 2 ^ i) (h : a < m) : (b * m) ||| a = b * m + a := by
  subst hm
  rw [← Nat.shiftLeft_eq, Nat.shiftLeft_add_eq_or_of_lt h]
theorem head_or (y0 y1 y2 n : Nat) (h1 : y1 < 2 ^ 8) (h2 : y2 < 2 ^ 8) (h0 : y0 < 2 ^ 8) (h : y0 * 65536 + y1 * 256 + y2 = n) :
    bits .or .i64 (bits .or .i64 ((y0 : Int) * 65536) ((y1 : Int) * 256)) (y2 : Int) = (n : Int) := by
  have e2 : y0 * 65536 + y1 * 256 = (y0 * 256 + y1) * 256 := by rw [Nat.add_mul, Nat.mul_assoc]
  have e0 : ((y0 : Int) * 65536) = ((y0 * 65536 : Nat) : Int) := by omega
  have e1 : ((y1 : Int) * 256) = ((y1 * 256 : Nat) : Int) := by omega
  rw [e0, e1, i64_or_nat _ _ (by omega) (by omega), or_sum (y1 * 256) y0 16 65536 (by decide) (by omega), i64_or_nat _ _ (by omega) (by omega),
    e2, or_sum y2 _ 8 256 (by decide) (by omega)]
  omega
theorem conv_zero (w : World) (a : Option Addr) (c : Nat) (h : a = none → c = 0) : (convert 22 9 (.slice a 0 c)).run Try.prog w = .ok (.string ⟨#[]⟩) w :=
  conv_rd (P := Try.prog) Try.underlying22 Try.underlying5 Try.underlying9 (l := []) ⟨a, c, rfl, Nat.zero_le _, h, fun _ _ j u hj => by simp [bytesV] at hj⟩
theorem grow_below {w wr w' : World} {n : Nat} {o : Obj} {v : Value} (hb : Below w.heap.size w wr) (hg : ((wr.drewN n).alloc o).grownBy w' v.ownBlock) (hv : ∀ g, v.ownBlock = some g → w.heap.size ≤ g) : Below w.heap.size w w' := by
  have h : Ch [] w ((wr.drewN n).alloc o) := Ch.alloc (w := wr.drewN n) ⟨hb.os, hb.tape, hb.output, hb.size, fun k hk _ => hb.block k hk⟩ o
  exact (h.grown hg (fun k hk => .inr (hv k hk))).below
theorem one_src (w : World) (r : List UInt8) (t : TypeId) : Src Try.prog 1 47 (.slice (some ⟨w.heap.size, 0, none⟩) 1 1) 1 [strV r] (w.alloc (.cells #[strV r] t)) := by
  have h : Rd (w.alloc (.cells #[strV r] t)) (.slice (some ⟨w.heap.size, 0, none⟩) 1 1) [strV r] := by
    refine ⟨_, 1, rfl, Nat.le_refl _, fun h => (Option.some_ne_none _ h).elim, fun ad e j u hj => ?_⟩
    obtain rfl := Option.some.inj e
    rw [Addr.add_lit, Nat.zero_add, cell_of_heap (heap_alloc_new w _)]
    simpa using hj
  exact h.src Try.underlying47 (strsV_one [r])
theorem drop_take_mid (P X Q R : List UInt8) (h : R = P ++ X ++ Q) (j : Nat) (u : UInt8) (hj : X[j]? = some u) : R[P.length + j]? = some u := by
  have := (List.getElem?_eq_some_iff.1 hj).1
  rw [h, mid_get P X Q j this, hj]
/-- What split leaves. -/
def SplitTo (w : World) (rs : List (List UInt8)) (e : Ending) (w' : World) : Prop :=
  ∃ a c, e = .returned (.tuple #[.slice a rs.length c, .int .i64 (frames rs).length, .bool true]) ∧ w'.ownsRow w.heap.size 9 1 (.slice a rs.length c) rs.length (strsV rs) ∧ Below w.heap.size w w'
set_option maxRecDepth 100000 in
set_option maxHeartbeats 1000000 in
theorem split_any (w : World) (a : Option Addr) (c : Nat) (rs : List (List UInt8)) (tail last : List UInt8) (b : List UInt8) (hb : b = frames rs ++ tail) (hr : Rd w (.slice a b.length c) (bytesV b)) (hbl : b.length ≤ 1048576)
    (ht : tail = (frame last).take tail.length) (htl : tail.length < 3 + last.length) (hlast : last.length ≤ 65536) (hrs : ∀ r ∈ rs, r.length ≤ 65536) :
    Calls Try.prog 35 #[.slice a b.length c] w (SplitTo w rs) := by
  have HR := Lib.hid hr; clear hr
  obtain ⟨i9, hi, hz0, hz1, hz2⟩ := info_parts info9
  go_enter Try.func35, Try.ntmps35
  go_wp2_with fail
  go_loopw [5, 6, 7] (fun out at_ nn wr => ∃ (k : Nat) (F : Nat) (ao : Option Addr) (co : Nat), k ≤ rs.length ∧ F = (frames (rs.take k)).length ∧ at_ = .int .i64 F ∧ out = .slice ao k co ∧ wr.ownsRow w.heap.size 9 1 (.slice ao k co) k (strsV (rs.take k)) ∧ Hid (Below w.heap.size w wr)) (fun _ i _ _ => b.length - (intOf i).toNat)
  case atStart => exact ⟨0, 0, none, 0, Nat.zero_le _, rfl, rfl, rfl, World.ownsRow_nil _ _ _ _, Below.refl _ _⟩
  case round =>
    obtain ⟨k, F, ao, co, hk, hF, rfl, rfl, hown, hbel⟩ := hrel
    by_cases hlt : k < rs.length
    · obtain ⟨r, hr⟩ : ∃ r, rs[k]? = some r := ⟨_, List.getElem?_eq_getElem hlt⟩
      have hrl := hrs r (List.mem_of_getElem? hr)
      have hsp := frames_split rs k r hr
      obtain ⟨y0, y1, y2, hy⟩ : ∃ y0 y1 y2, headOf r.length = [y0, y1, y2] := ⟨_, _, _, rfl⟩
      have hnum : y0.toNat * 65536 + y1.toNat * 256 + y2.toNat = r.length := by
        have := head_num r.length hrl
        unfold headOf at hy
        obtain ⟨rfl, rfl, rfl⟩ : _ ∧ _ ∧ _ := by simpa using hy
        exact this
      have hbb : b = frames (rs.take k) ++ ([y0, y1, y2] ++ r) ++ (frames (rs.drop (k + 1)) ++ tail) := by
        rw [hb, hsp]; unfold frame; rw [hy]; simp only [List.append_assoc]
      have hlen : F + 3 + r.length ≤ b.length := by
        have := congrArg List.length hbb
        simp only [List.length_append, List.length_cons, List.length_nil] at this
        omega
      obtain ⟨bk, o, rfl, hcell⟩ := (HR.out.below hbel.out).at (by omega)
      have g0 := hcell (F + 0) y0 (by rw [hbb, hF]; exact mid_get _ _ _ 0 (by simp))
      have g1 := hcell (F + 1) y1 (by rw [hbb, hF]; exact mid_get _ _ _ 1 (by simp))
      have g2 := hcell (F + 2) y2 (by rw [hbb, hF]; exact mid_get _ _ _ 2 (by simp))
      rw [Nat.add_zero] at g0
      have hcb : b.length ≤ c := by
        obtain ⟨_, _, e, h, _⟩ := HR.out
        have := (Value.slice.inj e).2.2
        rw [bytesV_length] at h; omega
      have l0 := y0.toNat_lt; have l1 := y1.toNat_lt; have l2 := y2.toNat_lt
      have hk3 : 3 * k ≤ F := by
        have := frames_ge (rs.take k)
        rw [List.length_take, Nat.min_eq_left hk] at this
        omega
      have HOR := Lib.hid (head_or _ _ _ _ l1 l2 l0 hnum)
      have hd : ∀ n, ((wr.drewN n).alloc (.cells #[strV r] 9)).ownsRow w.heap.size 9 1 (.slice ao k co) k (strsV (rs.take k)) := fun n => ownsRow_keep hown (fun g hg => Below.heap_alloc (wr.drewN n) _ _ (owns_lt hown g hg))
      have hge : ∀ g, (Value.slice ao k co).ownBlock = some g → w.heap.size ≤ g := fun g hg => owns_ge hown g hg
      have hfin : ∀ n (w' : World) a' c', ((wr.drewN n).alloc (.cells #[strV r] 9)).grownBy w' (Value.slice ao k co).ownBlock → w'.ownsRow w.heap.size 9 1 (.slice a' (k + 1) c') (k + 1) (strsV (rs.take k) ++ [strV r]) →
          Below w.heap.size w w' ∧ w'.ownsRow w.heap.size 9 1 (.slice a' (k + 1) c') (k + 1) (strsV (rs.take (k + 1))) ∧ F + (3 + r.length) = (frames (rs.take (k + 1))).length := by
        intro n w' a' c' hg ho
        refine ⟨grow_below hbel.out hg hge, ?_, ?_⟩
        · rw [List.take_add_one, hr]
          have e : strsV (rs.take k ++ (some r).toList) = strsV (rs.take k) ++ [strV r] := by simp [strsV]
          rw [e]; exact ho
        · rw [frames_take rs k r hr, List.length_append, frame_length, hF]
      have HD := Lib.hid hd; have HFIN := Lib.hid hfin
      clear hd hfin hge
      rcases (show c = F + 3 ∨ F + 3 < c from by omega) with hcz | hcz
      · have hr0 : r.length = 0 := by omega
        obtain rfl : r = [] := List.eq_nil_of_length_eq_zero hr0
        have hcv : ∀ n, (convert 22 9 (.slice (some ⟨bk, o, none⟩) 0 0)).run Try.prog (wr.drewN n) = .ok (.string ⟨#[]⟩) (wr.drewN n) := fun n => conv_zero _ _ _ (fun h => (Option.some_ne_none _ h).elim)
        clear hbb hF hnum hcell hsp hb hy ht hown hr
        go_wp2_with fail
        go_quiet (fail)
        rw [HOR.out]
        subst hcz
        go_wp2_with (first | (at_builtin; refine wpList_append_srcs rfl (.tmp 43) (.tmp 53) 47 47 rfl w.heap.size 9 i9 (.string ByteArray.empty) 1 16 Try.underlying47 hi hz0 hz1 hz2 rfl (by decide) _ rfl _ _ (HD.out _) _ rfl _ _ (one_src (wr.drewN _) [] _) (by unfold maxLen; omega) (by omega) (Nat.le_trans hbel.out.size (by simp)) ?_; intro a' c' w' hown hgrow _ _; obtain ⟨h1, h2, h3⟩ := HFIN.out _ _ _ _ hgrow hown; have H1 := Lib.hid h1; have H2 := Lib.hid h2; have H3 := Lib.hid h3; clear h1 h2 h3 hown hgrow) | fail)
        go_roundw
        case rel => exact ⟨k + 1, F + 3, a', c', by omega, H3.out, by go_num, rfl, H2.out, H1.out⟩
        case measure => simp [intOf]; omega
      · have hcv : ∀ n, (convert 22 9 (.slice (some ⟨bk, o + (F + 3), none⟩) r.length (c - (F + 3)))).run Try.prog (wr.drewN n) = .ok (.string ⟨r.toArray⟩) (wr.drewN n) := fun n => by
          refine conv_at (w := wr.drewN n) ⟨_, _, by rw [bytesV_length], by rw [bytesV_length]; omega, fun h => (Option.some_ne_none _ h).elim, fun ad e j u hj => ?_⟩
          obtain rfl := Option.some.inj e
          rw [Addr.add_lit]
          obtain ⟨x, hx, rfl⟩ : ∃ x, r[j]? = some x ∧ Value.int .u8 (x.toNat : Int) = u := by simpa [bytesV] using hj
          have := hcell (F + (3 + j)) x (by rw [hF]; exact drop_take_mid _ ([y0, y1, y2] ++ r) _ _ hbb (3 + j) x (by rw [List.getElem?_append_right (by simp)]; simpa using hx))
          rw [show o + (F + 3) + j = o + (F + (3 + j)) from by omega]
          exact this
        clear hbb hF hnum hcell hsp hb hy ht hown hr
        go_wp2_with fail
        go_quiet (fail)
        rw [HOR.out]
        go_wp2_with (first | (at_builtin; refine wpList_append_srcs rfl (.tmp 43) (.tmp 53) 47 47 rfl w.heap.size 9 i9 (.string ByteArray.empty) 1 16 Try.underlying47 hi hz0 hz1 hz2 rfl (by decide) _ rfl _ _ (HD.out _) _ rfl _ _ (one_src (wr.drewN _) r _) (by unfold maxLen; omega) (by omega) (Nat.le_trans hbel.out.size (by simp)) ?_; intro a' c' w' hown hgrow _ _; obtain ⟨h1, h2, h3⟩ := HFIN.out _ _ _ _ hgrow hown; have H1 := Lib.hid h1; have H2 := Lib.hid h2; have H3 := Lib.hid h3; clear h1 h2 h3 hown hgrow) | fail)
        go_roundw
        case rel => exact ⟨k + 1, F + (3 + r.length), a', c', by omega, H3.out, by go_num, rfl, H2.out, H1.out⟩
        case measure => simp [intOf]; omega
    · obtain rfl : k = rs.length := by omega
      rw [List.take_length] at hF hown
      have hlb : b.length = F + tail.length := by rw [hb, List.length_append, hF]
      have hend : ∀ n, SplitTo w rs (.returned (.tuple #[.slice ao rs.length co, .int .i64 F, .bool true])) (wr.drewN n) := fun n => ⟨ao, co, by rw [hF], hown, Below.drewN hbel.out n⟩
      have HEND := Lib.hid hend
      have hlb1 : F + tail.length ≤ b.length := by omega
      have hlb2 : b.length ≤ F + tail.length := by omega
      clear hlb
      clear hend hown
      by_cases h3 : tail.length < 3
      · clear hF hb ht htl hlast hrs
        go_wp2
        go_ret3
        exact HEND.out 0
      · obtain ⟨y0, y1, y2, hy⟩ : ∃ y0 y1 y2, headOf last.length = [y0, y1, y2] := ⟨_, _, _, rfl⟩
        have hnum : y0.toNat * 65536 + y1.toNat * 256 + y2.toNat = last.length := by
          have := head_num last.length hlast
          unfold headOf at hy
          obtain ⟨rfl, rfl, rfl⟩ : _ ∧ _ ∧ _ := by simpa using hy
          exact this
        obtain ⟨T, hT⟩ : ∃ T, tail = [y0, y1, y2] ++ T := ⟨tail.drop 3, by
          have e : tail.take 3 = [y0, y1, y2] := by
            rw [ht, List.take_take, Nat.min_eq_left (by omega)]
            unfold frame; rw [hy]; rfl
          rw [← e, List.take_append_drop]⟩
        have hbb : b = frames rs ++ [y0, y1, y2] ++ T := by rw [hb, hT, List.append_assoc]
        obtain ⟨bk, o, rfl, hcell⟩ := (HR.out.below hbel.out).at (by omega)
        have g0 := hcell (F + 0) y0 (by rw [hbb, hF]; exact mid_get _ _ _ 0 (by simp))
        have g1 := hcell (F + 1) y1 (by rw [hbb, hF]; exact mid_get _ _ _ 1 (by simp))
        have g2 := hcell (F + 2) y2 (by rw [hbb, hF]; exact mid_get _ _ _ 2 (by simp))
        rw [Nat.add_zero] at g0
        have l0 := y0.toNat_lt; have l1 := y1.toNat_lt; have l2 := y2.toNat_lt
        have HOR := Lib.hid (head_or _ _ _ _ l1 l2 l0 hnum)
        clear hbb hF hb ht hrs hT hcell hnum hy
        go_wp2_with fail
        go_quiet (fail)
        rw [HOR.out]
        go_wp2_with fail
        go_ret3
        exact HEND.out _
def CountTo (n : Int) (w : World) (e : Ending) (w' : World) : Prop := e = .returned (.int .i64 n) ∧ w = w'
theorem count_any (w : World) (L : Nat) (n : Int) (h : w.cell? ⟨L, 1, none⟩ = some (.int .i64 n)) :
    Calls Try.prog 31 #[.pointer (some ⟨L, 0, none⟩)] w (CountTo n w) := by
  go_enter Try.func31, Try.ntmps31
  go_wp2
  go_ret
  exact ⟨rfl, rfl⟩
end Go.Proofs.Ytebeafpoblhlhaa
