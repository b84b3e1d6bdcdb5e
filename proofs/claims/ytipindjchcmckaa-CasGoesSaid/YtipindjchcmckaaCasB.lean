/- DERIVED. The walks of package cas: Put, the nil store; great, alive. -/
import Derived.Test.YtipindjchcmckaaCasA
import Derived.Test.YtipindjchcmckaaMixMore
namespace Go.Proofs.Ytipindjchcmckaa
open Go.RowKit
set_option linter.unusedVariables false

/-- What Put says, and what is there behind it. -/
def CputRel (wd : Int) (ps : List Pr) (b : List UInt8) (key : List UInt8) (err : Int) (ps' : List Pr) : Prop :=
  (err = 3 ∧ 65536 < b.length ∧ key = [] ∧ ps' = ps) ∨ (err = 72 ∧ b.length ≤ 65536 ∧ (∃ old, (casKey wd b, old) ∈ ps ∧ old ≠ b) ∧ key = [] ∧ ps' = ps) ∨
  (err = 0 ∧ b.length ≤ 65536 ∧ key = casKey wd b ∧ (∀ p, p ∈ ps' ↔ p = (casKey wd b, b) ∨ p ∈ ps) ∧ ((casKey wd b, b) ∈ ps ∧ ps' = ps ∨ (∀ v, (casKey wd b, v) ∉ ps) ∧ ps'.length = ps.length + 1))
def StTo (w : World) (P S : Nat) (v : Value) (wd : Int) (ps' : List Pr) (w' : World) : Prop :=
  ∃ v', StAt w' P S v' wd ps' ∧ Ch (stFoot P S v) w w' ∧ ∀ k ∈ stFoot P S v', k ∈ stFoot P S v ∨ w.heap.size ≤ k
def CputTo (wd : Int) (ps : List Pr) (b : List UInt8) (w : World) (P S : Nat) (v : Value) (e : Ending) (w' : World) : Prop :=
  ∃ key err ps', e = .returned (.tuple #[strV key, .int .i64 err]) ∧ CputRel wd ps b key err ps' ∧ StTo w P S v wd ps' w'
theorem CputRel.len {wd : Int} {ps : List Pr} {b key : List UInt8} {err : Int} {ps' : List Pr} (h : CputRel wd ps b key err ps') : ps'.length ≤ ps.length + 1 := by
  rcases h with ⟨_, _, _, rfl⟩ | ⟨_, _, _, _, rfl⟩ | ⟨_, _, _, _, ⟨_, rfl⟩ | ⟨_, h⟩⟩ <;> omega
theorem put_same {wd : Int} {ps : List Pr} {b : List UInt8} {old : List UInt8} {had : Bool} {ps' : List Pr} (hs : Srt ps) (h : PutRel ps (casKey wd b) b old had ps') (hm : (casKey wd b, b) ∈ ps) : ps' = ps := by
  rcases h with ⟨_, hold, i, hi, rfl⟩ | ⟨_, _, hno, _⟩
  · have e : (casKey wd b, old) = (casKey wd b, b) := hs.inj hold hm rfl
    rw [e] at hi
    apply List.ext_getElem?
    intro j
    rw [List.getElem?_set]
    split
    · rename_i hj; subst hj
      have := (List.getElem?_eq_some_iff.1 hi).1
      rw [hi]; simp [this]
    · rfl
  · exact absurd hm (hno b)
theorem put_new {wd : Int} {ps : List Pr} {b : List UInt8} {old : List UInt8} {had : Bool} {ps' : List Pr} (h : PutRel ps (casKey wd b) b old had ps') (hm : ∀ v, (casKey wd b, v) ∉ ps) :
    (∀ p, p ∈ ps' ↔ p = (casKey wd b, b) ∨ p ∈ ps) ∧ ps'.length = ps.length + 1 := by
  rcases h with ⟨_, hold, _⟩ | ⟨_, _, _, i, hp, rfl⟩
  · exact absurd hold (hm old)
  · exact ⟨fun p => mem_insAt, insAt_length _ _ _ hp.le⟩
theorem StAt.put {w w1 W : World} {P S : Nat} {v : Value} {wd : Int} {ps ps' : List Pr} (h : StAt w P S v wd ps) (hb : Below w.heap.size w w1) (ht : ShTo w1 S v ps' W) (hk : ∀ p ∈ ps', p.1 = casKey wd p.2) : StTo w P S v wd ps' W := by
  obtain ⟨v', h1, h2, h3⟩ := ht
  have h' := h.below hb
  refine ⟨v', ⟨(h2.block P (lt_of_heap h'.cells) h'.apart).trans h'.cells, h1, ?_, hk⟩, ?_, ?_⟩
  · intro hP
    rcases h3 P hP with h3 | h3
    · exact h.apart h3
    · have := lt_of_heap h'.cells; omega
  · exact (Ch.of_below hb _).trans h2 (fun x hx => .inl (by simp [stFoot, hx]))
  · intro k hk'
    rcases List.mem_cons.1 hk' with rfl | hk'
    · exact .inl (by simp [stFoot])
    · rcases h3 k hk' with h | h
      · exact .inl (by simp [stFoot, h])
      · exact .inr (Nat.le_trans hb.size h)
theorem StTo.same {w w1 : World} {P S : Nat} {v : Value} {wd : Int} {ps : List Pr} (h : StAt w P S v wd ps) (hb : Below w.heap.size w w1) : StTo w P S v wd ps w1 :=
  ⟨v, h.below hb, Ch.of_below hb _, fun k hk => .inl hk⟩
set_option maxHeartbeats 1000000 in
theorem cput_any (w : World) (P S : Nat) (v : Value) (wd : Int) (ps : List Pr) (h : StAt w P S v wd ps) (hl : ps.length ≤ 999999) (b : List UInt8) (hb : b.length ≤ 140737488351232) :
    Calls Try.prog 11 #[.pointer (some ⟨P, 0, none⟩), strV b] w (CputTo wd ps b w P S v) := by
  have HT := Lib.hid (ctry_any w P S v wd ps h (by omega) b hb)
  have HH := Lib.hid h
  clear h
  go_enter Try.func11, Try.ntmps11
  go_wp2_with fail
  refine HT.out.mono ?_
  rintro e w1 ⟨err, rfl, hr, hb1⟩
  have HB1 := Lib.hid hb1
  clear hb1
  rcases hr with ⟨rfl, hr⟩ | ⟨rfl, hr1, hr2⟩ | ⟨rfl, hr1, hr2⟩
  · go_wp2
    go_ret2
    exact ⟨[], 3, ps, rfl, .inl ⟨rfl, hr, rfl, rfl⟩, StTo.same HH.out HB1.out⟩
  · have HR2 := Lib.hid hr2; clear hr2
    go_wp2
    go_ret2
    exact ⟨[], 72, ps, rfl, .inr (.inl ⟨rfl, hr1, HR2.out, rfl, rfl⟩), StTo.same HH.out HB1.out⟩
  · have HR2 := Lib.hid hr2; clear hr2
    have hk := HH.out.below HB1.out
    have HKE := Lib.hid (ckey_any w1 P S v wd ps hk b hb)
    clear hk
    go_wp2_with fail
    refine HKE.out.mono ?_
    rintro e w2 ⟨rfl, hb2⟩
    have HB2 := Lib.hid (HB1.out.trans (hb2.mono HB1.out.size))
    have hk := HH.out.below HB2.out
    obtain ⟨k0, k1⟩ := hk.at
    have HPU := Lib.hid (shput_any w2 S v ps (casKey wd b) b hk.sh hl)
    clear hb2 hk
    go_wp2_with fail
    refine HPU.out.mono ?_
    rintro e w3 ⟨old, had, ps', rfl, hrel, hto⟩
    have HREL := Lib.hid hrel; have HTO := Lib.hid hto; clear hrel hto
    go_wp2_with fail
    go_ret2
    have hfin : (∀ p, p ∈ ps' ↔ p = (casKey wd b, b) ∨ p ∈ ps) ∧ ((casKey wd b, b) ∈ ps ∧ ps' = ps ∨ (∀ v, (casKey wd b, v) ∉ ps) ∧ ps'.length = ps.length + 1) := by
      rcases HR2.out with hm | hm
      · have e := put_same HH.out.sh.srt HREL.out hm
        refine ⟨fun p => ?_, .inl ⟨hm, e⟩⟩
        rw [e]
        exact ⟨.inr, fun h => h.elim (fun h => by rw [h]; exact hm) id⟩
      · obtain ⟨h1, h2⟩ := put_new HREL.out hm
        exact ⟨h1, .inr ⟨hm, h2⟩⟩
    refine ⟨casKey wd b, 0, ps', rfl, .inr (.inr ⟨rfl, hr1, rfl, hfin⟩), StAt.put HH.out HB2.out HTO.out (fun p hp => ?_)⟩
    rcases (hfin.1 p).1 hp with rfl | hp
    · rfl
    · exact HH.out.keys p hp

/-! ### The nil store -/
set_option maxHeartbeats 1000000 in
theorem ckey_nil (w : World) (b : Value) : Calls Try.prog 13 #[.pointer none, b] w fun e w' => e = .returned (.string ⟨#[]⟩) ∧ w = w' := by
  go_enter Try.func13, Try.ntmps13
  go_wp2
  go_ret
  exact ⟨rfl, rfl⟩
set_option maxHeartbeats 1000000 in
theorem ctry_nil (w : World) (b : Value) : Calls Try.prog 10 #[.pointer none, b] w fun e w' => e = .returned (.int .i64 2) ∧ w = w' := by
  go_enter Try.func10, Try.ntmps10
  go_wp2
  go_ret
  exact ⟨rfl, rfl⟩
set_option maxHeartbeats 1000000 in
theorem cput_nil (w : World) (b : Value) : Calls Try.prog 11 #[.pointer none, b] w fun e w' => e = .returned (.tuple #[.string ⟨#[]⟩, .int .i64 2]) ∧ w = w' := by
  go_enter Try.func11, Try.ntmps11
  go_wp2_with fail
  refine (ctry_nil _ _).mono ?_
  rintro e w' ⟨rfl, rfl⟩
  go_wp2
  go_ret2
  exact ⟨rfl, rfl⟩
set_option maxHeartbeats 1000000 in
theorem cget_nil (w : World) (b : Value) : Calls Try.prog 16 #[.pointer none, b] w fun e w' => e = .returned (.tuple #[.string ⟨#[]⟩, .bool false]) ∧ w = w' := by
  go_enter Try.func16, Try.ntmps16
  go_wp2
  go_ret2
  exact ⟨rfl, rfl⟩
set_option maxHeartbeats 1000000 in
theorem clen_nil (w : World) : Calls Try.prog 15 #[.pointer none] w fun e w' => e = .returned (.int .i64 0) ∧ w = w' := by
  go_enter Try.func15, Try.ntmps15
  go_wp2
  go_ret
  exact ⟨rfl, rfl⟩
set_option maxHeartbeats 1000000 in
theorem over_any (w : World) (v : Value) (a : Option Addr) (l c : Nat) (hv : v = .slice a l c) :
    Calls Try.prog 37 #[v] w fun e w' => e = .returned (.func (.func 43) #[] #[.pointer (some ⟨w.heap.size, 0, none⟩)]) ∧ w' = w.alloc (.cells #[v] 55) := by
  subst hv
  go_enter Try.func37, Try.ntmps37
  go_wp2
  go_ret
  exact ⟨rfl, rfl⟩
set_option maxHeartbeats 1000000 in
theorem shall_nil (w : World) : Calls Try.prog 30 #[.pointer none] w fun e w' => e = .returned (.func (.func 43) #[] #[.pointer (some ⟨w.heap.size, 0, none⟩)]) ∧ w' = w.alloc (.cells #[.slice none 0 0] 55) := by
  go_enter Try.func30, Try.ntmps30
  go_wp2_with fail
  refine (over_any _ _ none 0 0 rfl).mono ?_
  rintro e w' ⟨rfl, rfl⟩
  go_wp2
  go_ret
  exact ⟨rfl, rfl⟩
set_option maxHeartbeats 1000000 in
theorem call_nil (w : World) : Calls Try.prog 18 #[.pointer none] w fun e w' => e = .returned (.func (.func 43) #[] #[.pointer (some ⟨w.heap.size, 0, none⟩)]) ∧ w' = w.alloc (.cells #[.slice none 0 0] 55) := by
  go_enter Try.func18, Try.ntmps18
  go_wp2_with fail
  refine (shall_nil _).mono ?_
  rintro e w' ⟨rfl, rfl⟩
  go_wp2
  go_ret
  exact ⟨rfl, rfl⟩
end Go.Proofs.Ytipindjchcmckaa
