/- DERIVED. The walks of package cas: New, Key, Len, Get, Try. -/
import Derived.Test.YtipindjchcmckaaShelfE
import Derived.Test.YtipindjchcmckaaMixCore
namespace Go.Proofs.Ytipindjchcmckaa
open Go.RowKit
set_option linter.unusedVariables false

def casKey (wd : Int) (b : List UInt8) : List UInt8 := mixText (mixNarrow (mixOf b) wd)
/-- A store whose struct lies in block P. -/
structure StAt (w : World) (P S : Nat) (v : Value) (wd : Int) (ps : List Pr) : Prop where
  cells : w.heap[P]? = some (.cells #[.int .i64 wd, .pointer (some ⟨S, 0, none⟩)] 49 (0, 0))
  sh : ShAt w S v ps
  apart : P ∉ shFoot S v
  keys : ∀ p ∈ ps, p.1 = casKey wd p.2
def stFoot (P S : Nat) (v : Value) : List Nat := P :: shFoot S v
theorem StAt.lt {w : World} {P S : Nat} {v : Value} {wd : Int} {ps : List Pr} (h : StAt w P S v wd ps) : ∀ k ∈ stFoot P S v, k < w.heap.size := by
  intro k hk
  rcases List.mem_cons.1 hk with rfl | hk
  · exact lt_of_heap h.cells
  · exact h.sh.lt k hk
theorem StAt.keep {w w' : World} {P S : Nat} {v : Value} {wd : Int} {ps : List Pr} (h : StAt w P S v wd ps) (hk : ∀ k ∈ stFoot P S v, w'.heap[k]? = w.heap[k]?) : StAt w' P S v wd ps :=
  ⟨(hk P (by simp [stFoot])).trans h.cells, h.sh.keep (fun k hk' => hk k (by simp [stFoot, hk'])), h.apart, h.keys⟩
theorem StAt.below {w w' : World} {P S : Nat} {v : Value} {wd : Int} {ps : List Pr} (h : StAt w P S v wd ps) (hb : Below w.heap.size w w') : StAt w' P S v wd ps :=
  h.keep fun k hk => hb.block k (h.lt k hk)
theorem StAt.at {w : World} {P S : Nat} {v : Value} {wd : Int} {ps : List Pr} (h : StAt w P S v wd ps) : w.cell? ⟨P, 0, none⟩ = some (.int .i64 wd) ∧ w.cell? ⟨P, 1, none⟩ = some (.pointer (some ⟨S, 0, none⟩)) :=
  ⟨cell_of_heap h.cells 0, cell_of_heap h.cells 1⟩
theorem StAt.drewN {w : World} {P S : Nat} {v : Value} {wd : Int} {ps : List Pr} (h : StAt w P S v wd ps) (n : Nat) : StAt (w.drewN n) P S v wd ps := ⟨h.cells, h.sh.drewN n, h.apart, h.keys⟩
set_option maxHeartbeats 1000000 in
theorem cnew_any (w : World) (wd : Int) :
    Calls Try.prog 9 #[.int .i64 wd] w fun e w' => e = .returned (.pointer (some ⟨w.heap.size + 1, 0, none⟩)) ∧ w' = (w.alloc (.cells #[.slice none 0 0] 57)).alloc (.cells #[.int .i64 wd, .pointer (some ⟨w.heap.size, 0, none⟩)] 49) := by
  go_enter Try.func9, Try.ntmps9
  go_wp2_with fail
  refine (shnew_any _).mono ?_
  rintro e w' ⟨rfl, rfl⟩
  go_wp2_with fail
  go_ret
  exact ⟨rfl, rfl⟩
theorem st_new (w : World) (wd : Int) : StAt ((w.alloc (.cells #[.slice none 0 0] 57)).alloc (.cells #[.int .i64 wd, .pointer (some ⟨w.heap.size, 0, none⟩)] 49)) (w.heap.size + 1) w.heap.size (.slice none 0 0) wd [] := by
  refine ⟨?_, ⟨(Below.heap_alloc _ _ _ (by simp)).trans (heap_alloc_new w _), World.ownsRow_nil _ _ _ _, (by intro e; cases e), srt_nil⟩, by simp [shFoot, Value.ownBlock], by simp⟩
  have := heap_alloc_new (w.alloc (.cells #[.slice none 0 0] 57)) (.cells #[.int .i64 wd, .pointer (some ⟨w.heap.size, 0, none⟩)] 49)
  rwa [World.size_alloc] at this
set_option maxHeartbeats 1000000 in
theorem clen_any (w : World) (P S : Nat) (v : Value) (wd : Int) (ps : List Pr) (h : StAt w P S v wd ps) :
    Calls Try.prog 15 #[.pointer (some ⟨P, 0, none⟩)] w fun e w' => e = .returned (.int .i64 ps.length) ∧ w = w' := by
  obtain ⟨h0, h1⟩ := h.at
  have HL := Lib.hid (shlen_any w S v ps h.sh); clear h
  go_enter Try.func15, Try.ntmps15
  go_wp2_with fail
  refine HL.out.mono ?_
  rintro e w' ⟨rfl, rfl⟩
  go_wp2_with fail
  go_ret
  exact ⟨rfl, rfl⟩
set_option maxHeartbeats 1000000 in
theorem cget_any (w : World) (P S : Nat) (v : Value) (wd : Int) (ps : List Pr) (h : StAt w P S v wd ps) (hl : ps.length ≤ 1000000) (k : List UInt8) :
    Calls Try.prog 16 #[.pointer (some ⟨P, 0, none⟩), strV k] w (GetTo ps k w) := by
  obtain ⟨h0, h1⟩ := h.at
  have HL := Lib.hid (shget_any w S v ps k h.sh hl); clear h
  go_enter Try.func16, Try.ntmps16
  go_wp2_with fail
  refine HL.out.mono ?_
  rintro e w' ⟨val, b, rfl, g1, g2, g3⟩
  have G1 := Lib.hid g1; have G2 := Lib.hid g2; have G3 := Lib.hid g3; clear g1 g2 g3
  go_wp2_with fail
  go_ret2
  exact ⟨val, b, rfl, G1.out, G2.out, G3.out⟩
theorem str_list (b : List UInt8) : (⟨b.toArray⟩ : ByteArray).data.toList = b := rfl
theorem ckey_get (w : World) (b : List UInt8) (hb : b.length ≤ 140737488351232) : Calls Try.prog 25 #[strV b] w fun e w' => e = .returned (.int .u64 (mixOf b).toNat) ∧ w = w' := by
  have := of_any ⟨b.toArray⟩ w (by rw [str_size]; unfold maxLen; omega)
  rw [str_list] at this
  exact this
set_option maxHeartbeats 1000000 in
theorem ckey_any (w : World) (P S : Nat) (v : Value) (wd : Int) (ps : List Pr) (h : StAt w P S v wd ps) (b : List UInt8) (hb : b.length ≤ 140737488351232) :
    Calls Try.prog 13 #[.pointer (some ⟨P, 0, none⟩), strV b] w fun e w' => e = .returned (strV (casKey wd b)) ∧ Below w.heap.size w w' := by
  obtain ⟨h0, h1⟩ := h.at
  have hof := fun w => ckey_get w b hb
  have HOF := Lib.hid hof
  clear h hof
  go_enter Try.func13, Try.ntmps13
  go_wp2_with fail
  go_region_law (first | (go_simp; go_at_call 25; refine (HOF.out _).mono ?_; rintro e w' ⟨rfl, rfl⟩) | (go_simp; go_at_call 24; refine (narrow_any _ _ _).mono ?_; rintro e w' ⟨rfl, rfl⟩) | (go_simp; go_at_call 23; refine (text_any _ _).mono ?_; rintro e w' ⟨rfl, hbl⟩))
  all_goals
    go_wp2_with fail
    go_ret
    exact ⟨rfl, ⟨hbl.os, hbl.tape, hbl.output, hbl.size, hbl.block⟩⟩
theorem StAt.drew {w : World} {P S : Nat} {v : Value} {wd : Int} {ps : List Pr} (h : StAt w P S v wd ps) : StAt w.drew P S v wd ps := ⟨h.cells, ⟨h.sh.cells, h.sh.row, h.sh.apart, h.sh.srt⟩, h.apart, h.keys⟩
/-- What Try says. -/
def TryRel (wd : Int) (ps : List Pr) (b : List UInt8) (err : Int) : Prop :=
  (err = 3 ∧ 65536 < b.length) ∨ (err = 72 ∧ b.length ≤ 65536 ∧ ∃ old, (casKey wd b, old) ∈ ps ∧ old ≠ b) ∨ (err = 0 ∧ b.length ≤ 65536 ∧ ((casKey wd b, b) ∈ ps ∨ ∀ v, (casKey wd b, v) ∉ ps))
def TryTo (wd : Int) (ps : List Pr) (b : List UInt8) (w : World) (e : Ending) (w' : World) : Prop := ∃ err, e = .returned (.int .i64 err) ∧ TryRel wd ps b err ∧ Below w.heap.size w w'
theorem below_drew {w w' : World} (h : Below w.drew.heap.size w.drew w') : Below w.heap.size w w' := ⟨h.os, h.tape, h.output, h.size, h.block⟩
set_option maxHeartbeats 1000000 in
theorem ctry_any (w : World) (P S : Nat) (v : Value) (wd : Int) (ps : List Pr) (h : StAt w P S v wd ps) (hl : ps.length ≤ 1000000) (b : List UInt8) (hb : b.length ≤ 140737488351232) :
    Calls Try.prog 10 #[.pointer (some ⟨P, 0, none⟩), strV b] w (TryTo wd ps b w) := by
  obtain ⟨h0, h1⟩ := h.at
  have hsz := str_size b
  have HH := Lib.hid h
  clear h
  unfold strV
  by_cases hbig : 65536 < b.length
  · go_enter Try.func10, Try.ntmps10
    go_wp2
    go_ret
    exact ⟨_, rfl, .inl ⟨rfl, hbig⟩, Below.refl _ _⟩
  · have hble : b.length ≤ 65536 := by omega
    clear hbig
    go_enter Try.func10, Try.ntmps10
    go_wp2_with fail
    go_region_law (first | (go_simp; go_at_call 13; refine (ckey_any w.drew P S v wd ps HH.out.drew b hb).mono ?_; rintro e w1 ⟨rfl, hb1⟩; have hs1 := (HH.out.drew.below hb1); obtain ⟨q0, q1⟩ := hs1.at; have HB1 := Lib.hid (below_drew hb1); have HS1 := Lib.hid hs1; clear hb1 hs1) | (go_simp; go_at_call 20; refine (shget_any w1 S v ps (casKey wd b) HS1.out.sh hl).mono ?_; rintro e w2 ⟨val, bb, rfl, g1, g2, g3⟩; have G1 := Lib.hid g1; have G2 := Lib.hid g2; have G3 := Lib.hid (HB1.out.trans (g3.mono HB1.out.size)); clear g1 g2 g3))
    all_goals
      cases bb
      · have g := (G2.out rfl).2
        have G := Lib.hid g
        clear g G1 G2
        go_wp2_with fail
        go_ret
        exact ⟨_, rfl, .inr (.inr ⟨rfl, hble, .inr G.out⟩), G3.out⟩
      · have g := G1.out rfl
        have G := Lib.hid g
        clear g G1 G2
        unfold strV
        by_cases hv : val = b
        · subst hv
          go_wp2_with fail
          go_ret
          exact ⟨_, rfl, .inr (.inr ⟨rfl, hble, .inl G.out⟩), G3.out⟩
        · have hv1 : (val == b) = false := by simpa using hv
          have hv2 : (val != b) = true := by simpa using hv
          go_wp2
          all_goals
            go_ret
            exact ⟨_, rfl, .inr (.inl ⟨rfl, hble, val, G.out, hv⟩), G3.out⟩
end Go.Proofs.Ytipindjchcmckaa
