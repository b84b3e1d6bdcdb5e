/- DERIVED. tree.Names: what it gives; its iterator. -/
import Derived.RangeFuncNested
import Derived.RangeFuncBound
import Derived.RangeFuncCalls
import Derived.RangeFuncLeaves
import Derived.Shelf.Abstract
import Derived.Shelf.RegionOpen
import Derived.OwnWalkIn
import Derived.TacticsInMore
import Derived.LoopNIn
import Derived.LoopIn
import Derived.Test.YtjcimajkjnjdpaaGreatDoorNamesCut
import Derived.Test.YtjcimajkjnjdpaaGreatDoorTreeAlive
import Derived.Test.YtjcimajkjnjdpaaGreatDoorTreePut
namespace Go.Proofs.YtjcimajkjnjdpaaGreatDoor
open Go.RowKit Go.Shelf
set_option linter.unusedVariables false

/-- What stands right under a place. -/
def nameOf (r : List UInt8) : List UInt8 := headT r ++ (if moreB r = true then [47] else [])
def nmF (d : List UInt8) (f : Pr) : Option (List UInt8) := if (underP d f.1).2 = true then some (nameOf (underP d f.1).1) else none
def rawN (d : List UInt8) (t : List Pr) : List (List UInt8) := t.filterMap (nmF d)
def namesT (t : List Pr) (d : List UInt8) : List (List UInt8) := allT (rawN d t)
theorem rawN_next {d : List UInt8} {t : List Pr} {k : Nat} {f : Pr} (h : t[k]? = some f) : rawN d (t.take (k + 1)) = rawN d (t.take k) ++ (nmF d f).toList := by
  unfold rawN
  rw [List.take_add_one, h, List.filterMap_append]
  congr 1
theorem head_le (l : List UInt8) : (headT l).length ≤ l.length := by
  unfold headT
  rcases idx_pieces l with ⟨_, h⟩ | ⟨i, _, h1, h⟩
  · rw [h]; exact Nat.le_refl _
  · rw [h]; simp; omega
theorem infoStr : (Tryz.prog.info? 9).map (fun i => (i.zero, i.size, i.bytes)) = some (some (.string ByteArray.empty), 1, 16) := by kernel_rfl
theorem strsV_snoc (ls : List (List UInt8)) (x : List UInt8) : strsV (ls ++ [x]) = strsV ls ++ [strV x] := by simp [strsV]
theorem st_src {w : World} {b : Nat} {u : Value} (h : w.heap[b]? = some (.cells #[u] 9 (0, 0))) (hu : u.oneCell' = true) : Src Tryz.prog 1 34 (.slice (some ⟨b, 0, none⟩) 1 1) 1 [u] w := by
  refine Src.ofSlice w Tryz.underlying34 ⟨b, 0, none⟩ 1 1 [u] rfl (fun j v hj => ?_) (fun v hv => by obtain rfl := List.mem_singleton.1 hv; exact hu)
  match j, hj with
  | 0, hj =>
    obtain rfl := Option.some.inj hj
    exact cell_of_heap h 0
  | j + 1, hj => cases hj
/-- What a round may change: one cell that is given, and what is no cell. -/
def KpC (Bi : Nat) (W W' : World) : Prop := W'.os = W.os ∧ W'.tape = W.tape ∧ W'.output = W.output ∧ W.heap.size ≤ W'.heap.size ∧ ∀ k o, k ≠ Bi → o.isCells = true → W.heap[k]? = some o → W'.heap[k]? = some o
theorem KpC.trans {Bi : Nat} {A B D : World} (h : KpC Bi A B) (k : KpC Bi B D) : KpC Bi A D :=
  ⟨k.1.trans h.1, k.2.1.trans h.2.1, k.2.2.1.trans h.2.2.1, Nat.le_trans h.2.2.2.1 k.2.2.2.1, fun x o h1 h2 h3 => k.2.2.2.2 x o h1 h2 (h.2.2.2.2 x o h1 h2 h3)⟩
theorem kpC_b {Bi : Nat} {w : World} (W : World) (l : Nat) (o o' : Obj) (hl : w.heap.size ≤ l) (h : W.heap[l]? = some o) (h1 : o.isCells = false) (h2 : o.isWalk = false) : KpC Bi W (W.putObj l o') := by
  have hg := grownBy_putObj' W l o'
  refine ⟨hg.os, hg.tape, hg.output, hg.size, fun k x hk hx hc => ?_⟩
  have hkl : k ≠ l := fun e => by subst e; rw [h] at hc; obtain rfl := Option.some.inj hc; rw [h1] at hx; cases hx
  exact (hg.block k (lt_of_heap hc) (fun e => hkl (Option.some.inj e))).trans hc
theorem ch_below1 {g base : Nat} {w w' : World} (h : Ch [g] w w') (hg : base ≤ g) (hb : base ≤ w.heap.size) : Below base w w' :=
  ⟨h.os, h.tape, h.output, h.size, fun k hk => h.block k (by omega) (by simp; omega)⟩
/-- A row of the call's own that reads as texts. -/
def RdOwn (base : Nat) (a : Option Addr) (ls : List (List UInt8)) (w : World) : Prop := ls ≠ [] → ∃ g, a = some ⟨g, 0, none⟩ ∧ base ≤ g ∧ ∀ (i : Nat) l, ls[i]? = some l → w.cell? ⟨g, i, none⟩ = some (strV l)
theorem RdOwn.kpc {base Bi : Nat} {a : Option Addr} {ls : List (List UInt8)} {w w' : World} (h : RdOwn base a ls w) (hk : KpC Bi w w') (hB : Bi < base) : RdOwn base a ls w' := fun hne => by
  obtain ⟨g, h1, h2, h3⟩ := h hne
  refine ⟨g, h1, h2, fun i l hi => ?_⟩
  have hc := h3 i l hi
  obtain ⟨C, e, fr, hb, _⟩ := Sort.cells_of_cell? hc
  have hb2 := hk.2.2.2.2 g _ (by omega) rfl hb
  exact (World.cell?_of_block (hb2.trans hb.symm)).trans hc
/-- What reads, of a row of the call's own, behind Sort. -/
def SrtAt (raw : List (List UInt8)) (base : Nat) (a : Option Addr) (c : Nat) (w : World) : Prop :=
  (a = none ∧ raw = []) ∨ ∃ g, a = some ⟨g, 0, none⟩ ∧ base ≤ g ∧ Sort.Holds encStr w g 0 (raw.mergeSort fun x y => decide (x ≤ y)).toArray ∧ raw.length ≤ c ∧ g < w.heap.size
theorem srta_any (w : World) (base : Nat) (a : Option Addr) (c n : Nat) (raw : List (List UInt8)) (h : w.ownsRow base 9 1 (.slice a n c) n (strsV raw)) (hn : n = raw.length) (hl : raw.length ≤ 1000000) (hb : base ≤ w.heap.size) :
    Calls Tryz.prog 44 #[.slice a n c] w (fun e w' => e = .returned (.tuple #[]) ∧ SrtAt raw base a c w' ∧ Below base w w') := by
  cases a with
  | none =>
    have h0 : n = 0 := by
      rcases h.2 with ⟨_, e⟩ | ⟨g, cap, cur, e1, _⟩
      · exact e
      · cases (Value.slice.inj e1).1
    subst h0
    refine (Tryz.slices_Sort_string_none none c w).mono ?_
    rintro e w' ⟨rfl, rfl⟩
    exact ⟨rfl, .inl ⟨rfl, List.eq_nil_of_length_eq_zero hn.symm⟩, Below.refl _ _⟩
  | some ad =>
    obtain ⟨g, rfl⟩ : ∃ g, ad = ⟨g, 0, none⟩ := by
      rcases h.2 with ⟨e1, _⟩ | ⟨g, cap, cur, e1, _⟩
      · cases (Value.slice.inj e1).1
      · exact ⟨g, by have := (Value.slice.inj e1).1; exact Option.some.inj this⟩
    have hg := owns_ge h g rfl
    have hc := (owns_cap h).1
    have hlt := owns_lt h g rfl
    subst hn
    obtain ⟨h1, h2⟩ := holds_owns h
    refine (srtw_any w g c raw h1 h2 hl).mono ?_
    rintro e w' ⟨rfl, h3, h4⟩
    exact ⟨rfl, .inr ⟨g, rfl, hg, h3, hc, Nat.lt_of_lt_of_le hlt h4.size⟩, ch_below1 h4 hg hb⟩
theorem cmpa_any (w : World) (base : Nat) (a : Option Addr) (c n : Nat) (raw : List (List UInt8)) (h : SrtAt raw base a c w) (hn : n = raw.length) (hl : raw.length ≤ 1000000) (hb : base ≤ w.heap.size) :
    Calls Tryz.prog 45 #[.slice a n c] w (fun e w' => e = .returned (.slice a (allT raw).length c) ∧ RdOwn base a (allT raw) w' ∧ Below base w w') := by
  rcases h with ⟨rfl, rfl⟩ | ⟨g, rfl, hg, h3, hc, hlt⟩
  · subst hn
    refine (Tryz.slices_Compact_string_empty none c w).mono ?_
    rintro e w' ⟨rfl, rfl⟩
    exact ⟨rfl, fun h => absurd rfl h, Below.refl _ _⟩
  · have hlen : (raw.mergeSort fun x y => decide (x ≤ y)).length = raw.length := List.length_mergeSort _
    have hC := cmpw_any w g c (raw.mergeSort fun x y => decide (x ≤ y)) h3 (by omega) (by omega)
    rw [hlen, sort_compact] at hC
    subst hn
    refine hC.mono ?_
    rintro e w' ⟨rfl, h4, h5⟩
    exact ⟨rfl, fun _ => ⟨g, rfl, hg, fun i l hi => h4 i l hi⟩, ch_below1 h5 hg hb⟩
attribute [local go_sem] Oper.semAt_some
def encS (s : List UInt8) : Array Value := #[strV s]
theorem allT_pre (l : List (List UInt8)) (k : Nat) : l.take k <+: l := List.take_prefix _ _
set_option maxRecDepth 100000 in
set_option maxHeartbeats 8000000 in
theorem names_stops (n C1 C2 Bi : Nat) (a : Option Addr) (c : Nat) (t : List Pr) (D : ByteArray) (w0 w : World) (hn : 1 ≤ n) (h1 : w.heap[C1]? = some (.cells #[.slice a t.length c] 26 (0, 0))) (h2 : w.heap[C2]? = some (.cells #[.string D] 9 (0, 0)))
    (hr : RdFl w0 a t) (hb0 : Below w0.heap.size w0 w) (hl : t.length ≤ 200) (ht : ∀ p ∈ t, p.1.length ≤ 400000) (hD : D.size ≤ 400000) (hBi : Bi < w.heap.size) :
    SeqStopsK Fence.wide n Tryz.prog 41 #[.pointer (some ⟨C1, 0, none⟩), .pointer (some ⟨C2, 0, none⟩)] encS (KpC Bi) (fun ys => ys = namesT t D.data.toList) (fun pre => pre <+: namesT t D.data.toList) (namesT t D.data.toList).length w := by
  obtain ⟨ns, hns⟩ : ∃ ns, ns = namesT t D.data.toList := ⟨_, rfl⟩
  rw [← hns]
  have HNS := Lib.hid hns
  clear hns
  intro l J Jx W hW hJ hJx hY h0
  obtain ⟨m, hm⟩ : ∃ m, m = t.length := ⟨_, rfl⟩
  rw [← hm] at h1
  have hkeep : ∀ V, Below W.heap.size W V → V.heap[C1]? = some (.cells #[.slice a m c] 26 (0, 0)) ∧ V.heap[C2]? = some (.cells #[.string D] 9 (0, 0)) := fun V h =>
    ⟨(h.block _ (Nat.lt_of_lt_of_le (lt_of_heap h1) hW.size)).trans ((hW.block _ (lt_of_heap h1)).trans h1), (h.block _ (Nat.lt_of_lt_of_le (lt_of_heap h2) hW.size)).trans ((hW.block _ (lt_of_heap h2)).trans h2)⟩
  have c0 := cell_of_heap (hkeep W (Below.refl _ _)).1 0
  have hBW : Bi < W.heap.size := Nat.lt_of_lt_of_le hBi hW.size
  obtain ⟨i9, hi, hz0, hz1, hz2⟩ := info_three infoStr
  have HI := Lib.hid (And.intro hi (And.intro hz0 (And.intro hz1 hz2)))
  have HR := Lib.hid (hr.below (hb0.trans (hW.mono hb0.size))); have HM := Lib.hid hm; have HJ := Lib.hid hJ; have HT := Lib.hid ht; have HKEEP := Lib.hid hkeep; have HBW := Lib.hid hBW; have HJ0 := Lib.hid h0
  have hml : m ≤ 200 := by omega
  clear h1 h2 hr hm hW hJ hJx hb0 ht hl hkeep hBW hBi hi hz0 hz1 hz2 h0
  refine callsIn_of_wp Tryz.func41 rfl trivial ?_ rfl
  simp only [Tryz.ntmps41, List.size_toArray, List.length_cons, List.length_nil, Nat.reduceAdd, Nat.reduceSub, Array.replicate_succ, Array.replicate_zero, List.push_toArray, List.append_toArray, List.nil_append, List.cons_append]
  refine wpIn_wide.2 ?_
  go_wp2_with fail
  clear c0
  go_loopw [4, 17] (fun y x wr => ∃ (k q : Nat) (a8 : Option Addr) (c8 : Nat), y = .slice a8 q c8 ∧ x = .int .i64 k ∧ k ≤ m ∧ q ≤ k ∧ Hid (q = (rawN D.data.toList (t.take k)).length) ∧ Hid (wr.ownsRow W.heap.size 9 1 (.slice a8 q c8) q (strsV (rawN D.data.toList (t.take k)))) ∧ Hid (Below W.heap.size W wr)) (fun _ x _ => m - (intOf x).toNat)
  case atStart => exact ⟨0, 0, none, 0, rfl, rfl, Nat.zero_le _, Nat.le_refl _, rfl, World.ownsRow_nil _ _ _ _, Below.refl _ _⟩
  case round =>
    obtain ⟨k, q, a8, c8, rfl, rfl, hkm, hqk, hq, hown, hbr⟩ := hrel
    by_cases hlt : k < m
    · obtain ⟨p, hp⟩ : ∃ p, t[k]? = some p := ⟨_, List.getElem?_eq_getElem (by rw [← HM.out]; exact hlt)⟩
      obtain ⟨rb, o, rfl, _, hcs⟩ := HR.out.below hbr.out (fun e => by rw [e] at hp; cases hp)
      obtain ⟨p0, p1⟩ := hcs k p hp
      obtain ⟨S1, hS1⟩ : ∃ S : ByteArray, S = ⟨p.1.toArray⟩ := ⟨_, rfl⟩
      obtain ⟨S2, hS2⟩ : ∃ S : ByteArray, S = ⟨p.2.toArray⟩ := ⟨_, rfl⟩
      have hS1z : S1.size ≤ 400000 := by rw [hS1, str_size]; exact HT.out p (List.mem_of_getElem? hp)
      have hU := fun V => under_any D S1 V hD hS1z
      rw [show S1.data.toList = p.1 by rw [hS1]] at hU
      unfold strV at p0 p1
      rw [← hS1] at p0; rw [← hS2] at p1
      obtain ⟨w7, hw7, hb7, hfx, _, _⟩ := new_two wr (.string S1) (.string S2) 41
      have f0 := cell_of_heap hfx 0
      have HB7 := Lib.hid (hbr.out.trans (hb7.mono hbr.out.size))
      have HOWN7 := Lib.hid (ownsRow_keep hown.out (fun g hg => hb7.block g (owns_lt hown.out g hg)))
      have c2 := cell_of_heap (HKEEP.out w7 HB7.out).2 0
      have hnx := rawN_next (d := D.data.toList) hp
      have hul := under_short D.data.toList p.1
      have hpl := HT.out p (List.mem_of_getElem? hp)
      clear hcs hfx hp hS1 hS2 hS1z hb7
      cases hu : underP D.data.toList p.1 with
      | mk u1 u2 =>
      rw [hu] at hU hul
      dsimp only at hU hul
      unfold strV at hU
      obtain ⟨P, hP⟩ : ∃ P : ByteArray, P = ⟨u1.toArray⟩ := ⟨_, rfl⟩
      have hPz : P.size ≤ 400000 := by rw [hP, str_size]; omega
      have hPd : P.data.toList = u1 := by rw [hP]
      rw [← hP] at hU
      unfold nmF at hnx
      rw [hu] at hnx
      dsimp only at hnx
      have HU := Lib.hid hU
      clear hU hP hu
      cases u2
      · rw [if_neg (by simp)] at hnx
        have HNX := Lib.hid (show rawN D.data.toList (t.take (k + 1)) = rawN D.data.toList (t.take k) by rw [hnx]; simp)
        clear hnx
        go_wp2_with fail
        refine (HU.out w7).mono ?_
        rintro e w8 ⟨rfl, h8⟩
        have HB8 := Lib.hid (HB7.out.trans (h8.mono HB7.out.size))
        have HO8 := Lib.hid (ownsRow_keep HOWN7.out (w' := w8) (fun g hg => h8.block g (owns_lt HOWN7.out g hg)))
        clear h8 f0 c2
        go_wp2_with fail
        go_roundw
        case rel => exact ⟨k + 1, q, a8, c8, rfl, by go_num, hlt, by omega, by rw [HNX.out]; exact hq.out, by rw [HNX.out]; exact HO8.out, HB8⟩
        case measure => simp [intOf]; omega
      · rw [if_pos rfl] at hnx
        have HNX := Lib.hid (show rawN D.data.toList (t.take (k + 1)) = rawN D.data.toList (t.take k) ++ [nameOf u1] from hnx)
        have hcut := fun V => scut_any P V (by omega)
        rw [hPd] at hcut
        have hHl := head_le u1
        have HCUT := Lib.hid hcut
        clear hnx hcut
        go_wp2_with fail
        refine (HU.out w7).mono ?_
        rintro e w8 ⟨rfl, h8⟩
        have HB8 := Lib.hid (HB7.out.trans (h8.mono HB7.out.size))
        have HO8 := Lib.hid (ownsRow_keep HOWN7.out (w' := w8) (fun g hg => h8.block g (owns_lt HOWN7.out g hg)))
        clear h8 f0 c2
        go_wp2_with fail
        refine (HCUT.out w8).mono ?_
        rintro e w9 ⟨H, R, rfl, hH, h9⟩
        have HB9 := Lib.hid (HB8.out.trans (h9.mono HB8.out.size))
        have HO9 := Lib.hid (ownsRow_keep HO8.out (w' := w9) (fun g hg => h9.block g (owns_lt HO8.out g hg)))
        have hHz : H.size ≤ 400000 := by rw [hH, str_size]; omega
        obtain ⟨mb, hmb⟩ : ∃ mb, mb = moreB u1 := ⟨_, rfl⟩
        obtain ⟨NM, hNM⟩ : ∃ NM : ByteArray, NM = ⟨(nameOf u1).toArray⟩ := ⟨_, rfl⟩
        rw [← hmb]
        have hno : nameOf u1 = headT u1 ++ (if mb = true then [47] else []) := by unfold nameOf; rw [hmb]
        have HNM := Lib.hid hNM
        have hsrc := fun V => st_src (heap_alloc_new V (.cells #[.string NM] 9)) rfl
        have HSRC := Lib.hid (hsrc w9)
        have HO10 := Lib.hid (ownsRow_keep HO9.out (w' := w9.alloc (.cells #[.string NM] 9)) (fun g hg => Below.heap_alloc w9 _ g (owns_lt HO9.out g hg)))
        have HZ10 := Lib.hid (show W.heap.size ≤ (w9.alloc (.cells #[.string NM] 9)).heap.size from by have := HB9.out.size; simp; omega)
        clear h9 hsrc
        cases mb
        · have hHN : H = NM := by rw [hH, hNM, hno]; simp
          subst hHN
          clear hmb hno hH hNM
          go_wp2_with (first | (at_builtin; refine wpList_append_srcs rfl (.tmp 39) (.tmp 41) 34 34 rfl W.heap.size 9 i9 _ 1 16 Tryz.underlying34 HI.out.1 HI.out.2.1 HI.out.2.2.1 HI.out.2.2.2 rfl (by decide) _ rfl q _ HO10.out _ rfl _ _ HSRC.out (by unfold maxLen; omega) (by omega) HZ10.out ?_; intro a' c' wX hown9 hgrow _ hblk; have HNEXT := Lib.hid hown9; have HGROW := Lib.hid hgrow; clear hown9 hgrow hblk) | fail)
          go_roundw
          case rel => exact ⟨k + 1, q + 1, a', c', rfl, by go_num, hlt, by omega, by rw [HNX.out, List.length_append, ← hq.out]; rfl, by rw [HNX.out, strsV_snoc, show strV (nameOf u1) = .string H by rw [HNM.out]; rfl]; exact HNEXT.out, below_grown (HB9.out.alloc HB9.out.size _) HGROW.out (fun g hg => owns_ge HO10.out g hg)⟩
          case measure => simp [intOf]; omega
        · have hHN : H ++ ⟨#[47]⟩ = NM := by rw [hH, hNM, hno, if_pos rfl, ← str_append]
          have hsum : ¬ 140737488355328 < H.size + 1 := by omega
          clear hmb hno hH hNM
          go_wp2_with (first | (at_builtin; refine wpList_append_srcs rfl (.tmp 39) (.tmp 41) 34 34 rfl W.heap.size 9 i9 _ 1 16 Tryz.underlying34 HI.out.1 HI.out.2.1 HI.out.2.2.1 HI.out.2.2.2 rfl (by decide) _ rfl q _ HO10.out _ rfl _ _ HSRC.out (by unfold maxLen; omega) (by omega) HZ10.out ?_; intro a' c' wX hown9 hgrow _ hblk; have HNEXT := Lib.hid hown9; have HGROW := Lib.hid hgrow; clear hown9 hgrow hblk) | fail)
          go_roundw
          case rel => exact ⟨k + 1, q + 1, a', c', rfl, by go_num, hlt, by omega, by rw [HNX.out, List.length_append, ← hq.out]; rfl, by rw [HNX.out, strsV_snoc, show strV (nameOf u1) = .string NM by rw [HNM.out]; rfl]; exact HNEXT.out, below_grown (HB9.out.alloc HB9.out.size _) HGROW.out (fun g hg => owns_ge HO10.out g hg)⟩
          case measure => simp [intOf]; omega
    · obtain rfl : k = m := by omega
      have ho := hown.out
      have hq2 := hq.out
      rw [List.take_of_length_le (by rw [← HM.out]; exact Nat.le_refl _)] at ho hq2
      have hS := srta_any wr W.heap.size a8 c8 q (rawN D.data.toList t) ho hq2 (by omega) hbr.out.size
      have HS := Lib.hid hS; have HQ := Lib.hid hq2
      clear ho hq2 hS hown hq
      go_wp2_with fail
      refine HS.out.mono ?_
      rintro e w8 ⟨rfl, hsa, h8⟩
      have HB8 := Lib.hid (hbr.out.trans h8)
      have hC := cmpa_any w8 W.heap.size a8 c8 q (rawN D.data.toList t) hsa HQ.out (by have := HQ.out; omega) HB8.out.size
      rw [show allT (rawN D.data.toList t) = ns by rw [HNS.out]; rfl] at hC
      obtain ⟨nn, hnn⟩ : ∃ nn, nn = ns.length := ⟨_, rfl⟩
      rw [← hnn] at hC hY
      have HC := Lib.hid hC; have HNN := Lib.hid hnn
      have hnm : nn ≤ 1000 := by
        rw [hnn, HNS.out]
        unfold namesT
        have h3 := allT_le (rawN D.data.toList t)
        have h4 := HQ.out
        omega
      clear hC hnn hsa h8
      go_wp2_with fail
      refine HC.out.mono ?_
      rintro e w9 ⟨rfl, hrd, h9⟩
      have HB9 := Lib.hid (HB8.out.trans h9); have HRD := Lib.hid hrd
      have hJ9 : J [] w9 := by
        have hb9 := HB8.out.trans h9
        exact HJ.out _ _ _ none HJ0.out ⟨hb9.os, hb9.tape, hb9.output, hb9.size, fun x hx _ => hb9.block x hx⟩ (fun r e => by cases e)
      have HJ9 := Lib.hid hJ9
      clear hrd h9 hJ9
      go_wp2_with fail
      refine (wpIn_wide (n := n)).1 ?_
      gi_loopw [49] (fun i wr => ∃ k : Nat, k ≤ nn ∧ i = .int .i64 k ∧ Hid (J (ns.take k) wr) ∧ Hid (RdOwn W.heap.size a8 ns wr)) (fun i _ => nn - (intOf i).toNat)
      case atStart => exact ⟨0, Nat.zero_le _, rfl, HJ9.out, HRD.out⟩
      case round =>
        obtain ⟨j, hj, rfl, hJs, hrd⟩ := hrel
        by_cases hlt2 : j < nn
        · obtain ⟨s, hs⟩ : ∃ s, ns[j]? = some s := ⟨_, List.getElem?_eq_getElem (by rw [← HNN.out]; exact hlt2)⟩
          obtain ⟨g, rfl, hg, hcs⟩ := hrd.out (fun e => by rw [e] at hs; cases hs)
          have s0 := hcs j s hs
          have hlen : (ns.take j).length < nn := by rw [List.length_take, ← HNN.out]; omega
          have hpre : ns.take j ++ [s] = ns.take (j + 1) := by rw [List.take_add_one, hs]; rfl
          obtain ⟨fn, tmps, assign, body, hy, hRR⟩ := hY (ns.take j) s wr hJs.out hlen
          unfold encS at hy
          obtain ⟨S1, hS1⟩ : ∃ S : ByteArray, strV s = .string S := ⟨_, rfl⟩
          rw [hS1] at hy s0
          rw [hpre] at hRR
          have HR2 := Lib.hid hRR
          clear hcs hs hg hS1 hRR hpre hlen
          gi_wp2
          refine HR2.out.mono ?_
          rintro e W3 (⟨rfl, hJ3, hk3⟩ | ⟨rfl, hJx3⟩)
          · have HJ3 := Lib.hid hJ3; have HRD3 := Lib.hid (hrd.out.kpc hk3 HBW.out); clear hJ3 hk3
            gi_wp2
            go_roundw
            case rel => exact ⟨j + 1, hlt2, by go_num, HJ3, HRD3⟩
            case measure => simp [intOf]; omega
          · have HJX := Lib.hid hJx3; clear hJx3
            gi_wp2
            refine bodyPost_ret (results_none rfl _ _ _) rfl ?_
            exact ⟨⟨_, rfl⟩, .inr ⟨ns.take (j + 1), List.take_prefix _ _, HJX.out⟩⟩
        · obtain rfl : j = nn := by omega
          gi_wp2
          go_end0
          have := hJs.out
          rw [List.take_of_length_le (by rw [← HNN.out]; exact Nat.le_refl _)] at this
          exact ⟨⟨_, rfl⟩, .inl ⟨_, rfl, this⟩⟩
end Go.Proofs.YtjcimajkjnjdpaaGreatDoor
