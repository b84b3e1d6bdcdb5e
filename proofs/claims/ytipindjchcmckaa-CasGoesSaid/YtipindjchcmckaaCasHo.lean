/- DERIVED. The walk of CasHolds. -/
import Derived.Test.YtipindjchcmckaaCasC
namespace Go.Proofs.Ytipindjchcmckaa
open Go.RowKit
set_option linter.unusedVariables false

/-- A store of the call's own, apart from the blocks F. -/
def CasWith (B : Nat) (w0 : World) (P : Nat) (wd : Int) (ps : List Pr) (F : List Nat) (w : World) : Prop :=
  ∃ S v, StAt w P S v wd ps ∧ (∀ k ∈ stFoot P S v, B ≤ k ∧ k ∉ F) ∧ (∀ k ∈ F, k < w.heap.size) ∧ Below B w0 w ∧ B ≤ w.heap.size
theorem CasOwn.with {B : Nat} {w0 w : World} {P : Nat} {wd : Int} {ps : List Pr} (h : CasOwn B w0 P wd ps w) : CasWith B w0 P wd ps [] w := by
  obtain ⟨S, v, h1, h2, h3, h4⟩ := h
  exact ⟨S, v, h1, fun k hk => ⟨h2 k hk, by simp⟩, by simp, h3, h4⟩
theorem CasWith.own {B : Nat} {w0 w : World} {P : Nat} {wd : Int} {ps : List Pr} {F : List Nat} (h : CasWith B w0 P wd ps F w) : CasOwn B w0 P wd ps w := by
  obtain ⟨S, v, h1, h2, h3, h4, h5⟩ := h
  exact ⟨S, v, h1, fun k hk => (h2 k hk).1, h4, h5⟩
theorem CasWith.below {B : Nat} {w0 w w' : World} {P : Nat} {wd : Int} {ps : List Pr} {F : List Nat} (h : CasWith B w0 P wd ps F w) (hb : Below w.heap.size w w') : CasWith B w0 P wd ps F w' := by
  obtain ⟨S, v, h1, h2, h3, h4, h5⟩ := h
  exact ⟨S, v, h1.below hb, h2, fun k hk => Nat.lt_of_lt_of_le (h3 k hk) hb.size, h4.trans (hb.mono h5), Nat.le_trans h5 hb.size⟩
theorem with_put {B : Nat} {w0 w : World} {P : Nat} {wd : Int} {ps : List Pr} {F : List Nat} (h : CasWith B w0 P wd ps F w) (hl : ps.length ≤ 999999) (b : List UInt8) (hb : b.length ≤ 140737488351232) :
    Calls Try.prog 11 #[.pointer (some ⟨P, 0, none⟩), strV b] w fun e w' => ∃ key err ps', e = .returned (.tuple #[strV key, .int .i64 err]) ∧ CputRel wd ps b key err ps' ∧ CasWith B w0 P wd ps' F w' ∧ ∀ k ∈ F, w'.heap[k]? = w.heap[k]? := by
  obtain ⟨S, v, h1, h2, h3, h4, h5⟩ := h
  refine (cput_any w P S v wd ps h1 hl b hb).mono ?_
  rintro e w' ⟨key, err, ps', rfl, hr, v', g1, g2, g3⟩
  refine ⟨key, err, ps', rfl, hr, ⟨S, v', g1, fun k hk => ?_, fun k hk => Nat.lt_of_lt_of_le (h3 k hk) g2.size, h4.trans (below_of_ch g2 (fun k hk => (h2 k hk).1) h5), Nat.le_trans h5 g2.size⟩, fun k hk => g2.block k (h3 k hk) (fun hf => (h2 k hf).2 hk)⟩
  rcases g3 k hk with h | h
  · exact h2 k h
  · exact ⟨Nat.le_trans h5 h, fun hF => by have := h3 k hF; omega⟩
/-- A row of F has grown. -/
theorem CasWith.grown {B : Nat} {w0 w w' : World} {P : Nat} {wd : Int} {ps : List Pr} {F F' : List Nat} {row : Option Nat} (h : CasWith B w0 P wd ps F w) (hg : w.grownBy w' row) (hr : ∀ k, row = some k → k ∈ F ∧ B ≤ k) (hF : ∀ k ∈ F', k ∈ F ∨ w.heap.size ≤ k ∧ k < w'.heap.size) : CasWith B w0 P wd ps F' w' := by
  obtain ⟨S, v, h1, h2, h3, h4, h5⟩ := h
  have hch : Ch row.toList w w' := (Ch.refl _ w).grown hg (fun k hk => .inl (by simp [hk]))
  refine ⟨S, v, h1.keep (fun k hk => hg.block k (h1.lt k hk) (fun e => (h2 k hk).2 (hr k e.symm).1)), fun k hk => ⟨(h2 k hk).1, fun hk' => ?_⟩, fun k hk => ?_, h4.trans (below_of_ch hch (fun k hk => (hr k (by simpa using hk)).2) h5), Nat.le_trans h5 hg.size⟩
  · rcases hF k hk' with h | h
    · exact (h2 k hk).2 h
    · have := h1.lt k hk; omega
  · rcases hF k hk with h | h
    · exact Nat.lt_of_lt_of_le (h3 k h) hg.size
    · exact h.2
theorem with_get {B : Nat} {w0 w : World} {P : Nat} {wd : Int} {ps : List Pr} {F : List Nat} (h : CasWith B w0 P wd ps F w) (hl : ps.length ≤ 1000000) (k : List UInt8) :
    Calls Try.prog 16 #[.pointer (some ⟨P, 0, none⟩), strV k] w (GetTo ps k w) := by
  obtain ⟨S, v, h1, h2, h3, h4, h5⟩ := h
  exact cget_any w P S v wd ps h1 hl k
theorem with_key {B : Nat} {w0 w : World} {P : Nat} {wd : Int} {ps : List Pr} {F : List Nat} (h : CasWith B w0 P wd ps F w) (b : List UInt8) (hb : b.length ≤ 140737488351232) :
    Calls Try.prog 13 #[.pointer (some ⟨P, 0, none⟩), strV b] w fun e w' => e = .returned (strV (casKey wd b)) ∧ Below w.heap.size w w' := by
  obtain ⟨S, v, h1, h2, h3, h4, h5⟩ := h
  exact ckey_any w P S v wd ps h1 b hb
theorem CasWith.bel {B : Nat} {w0 w : World} {P : Nat} {wd : Int} {ps : List Pr} {F : List Nat} (h : CasWith B w0 P wd ps F w) : Below B w0 w ∧ B ≤ w.heap.size ∧ Srt ps := by
  obtain ⟨S, v, h1, h2, h3, h4, h5⟩ := h
  exact ⟨h4, h5, h1.sh.srt⟩
structure HoldsInv (B : Nat) (w0 : World) (P : Nat) (wd : Int) (ps : List Pr) (kv ov : Value) (nk no : Nat) (ks os : List (List UInt8)) (w : World) : Prop where
  st : CasWith B w0 P wd ps (kv.ownBlock.toList ++ ov.ownBlock.toList) w
  rk : w.ownsRow B 9 1 kv nk (strsV ks)
  ro : w.ownsRow B 9 1 ov no (strsV os)
  ap : ∀ g, kv.ownBlock = some g → ov.ownBlock ≠ some g
section
variable {B : Nat} {w0 w w' : World} {P : Nat} {wd : Int} {ps : List Pr} {kv ov : Value} {nk no : Nat} {ks os : List (List UInt8)}
theorem HoldsInv.below (h : HoldsInv B w0 P wd ps kv ov nk no ks os w) (hb : Below w.heap.size w w') : HoldsInv B w0 P wd ps kv ov nk no ks os w' :=
  ⟨h.st.below hb, ownsRow_keep h.rk (fun g hg => hb.block g (owns_lt h.rk g hg)), ownsRow_keep h.ro (fun g hg => hb.block g (owns_lt h.ro g hg)), h.ap⟩
theorem HoldsInv.other {ps' : List Pr} (h : HoldsInv B w0 P wd ps kv ov nk no ks os w) (hs : CasWith B w0 P wd ps' (kv.ownBlock.toList ++ ov.ownBlock.toList) w') (hk : ∀ k ∈ kv.ownBlock.toList ++ ov.ownBlock.toList, w'.heap[k]? = w.heap[k]?) : HoldsInv B w0 P wd ps' kv ov nk no ks os w' :=
  ⟨hs, ownsRow_keep h.rk (fun g hg => hk g (by simp [hg])), ownsRow_keep h.ro (fun g hg => hk g (by simp [hg])), h.ap⟩
theorem HoldsInv.key (h : HoldsInv B w0 P wd ps kv ov nk no ks os w) {key : List UInt8} {kv' : Value} (hg : w.grownBy w' kv.ownBlock) (ho : w'.ownsRow B 9 1 kv' (nk + 1) (strsV ks ++ [strV key])) (hb : kv'.ownBlock = kv.ownBlock ∨ kv'.ownBlock = some w.heap.size) :
    HoldsInv B w0 P wd ps kv' ov (nk + 1) no (ks ++ [key]) os w' := by
  have e : strsV (ks ++ [key]) = strsV ks ++ [strV key] := by simp [strsV]
  refine ⟨h.st.grown hg (fun k hk => ⟨by simp [hk], owns_ge h.rk k hk⟩) ?_, by rw [e]; exact ho, ownsRow_keep h.ro (fun g hg' => hg.block g (owns_lt h.ro g hg') (fun e => h.ap g e.symm hg')), fun g hg' e => ?_⟩
  · intro k hk
    simp only [List.mem_append, Option.mem_toList] at hk ⊢
    rcases hk with hk | hk
    · rcases hb with hb | hb
      · rw [hb] at hk; exact .inl (.inl hk)
      · have := owns_lt ho k hk
        rw [hb] at hk
        have := Option.some.inj hk
        exact .inr ⟨by omega, by omega⟩
    · exact .inl (.inr hk)
  · rcases hb with hb | hb
    · rw [hb] at hg'; exact h.ap g hg' e
    · rw [hb] at hg'
      have := Option.some.inj hg'
      have := owns_lt h.ro g e
      omega
theorem HoldsInv.obj (h : HoldsInv B w0 P wd ps kv ov nk no ks os w) {b : List UInt8} {ov' : Value} (hg : w.grownBy w' ov.ownBlock) (ho : w'.ownsRow B 9 1 ov' (no + 1) (strsV os ++ [strV b])) (hb : ov'.ownBlock = ov.ownBlock ∨ ov'.ownBlock = some w.heap.size) :
    HoldsInv B w0 P wd ps kv ov' nk (no + 1) ks (os ++ [b]) w' := by
  have e : strsV (os ++ [b]) = strsV os ++ [strV b] := by simp [strsV]
  refine ⟨h.st.grown hg (fun k hk => ⟨by simp [hk], owns_ge h.ro k hk⟩) ?_, ownsRow_keep h.rk (fun g hg' => hg.block g (owns_lt h.rk g hg') (fun e => h.ap g hg' e.symm)), by rw [e]; exact ho, fun g hg' e => ?_⟩
  · intro k hk
    simp only [List.mem_append, Option.mem_toList] at hk ⊢
    rcases hk with hk | hk
    · exact .inl (.inl hk)
    · rcases hb with hb | hb
      · rw [hb] at hk; exact .inl (.inr hk)
      · have := owns_lt ho k hk
        rw [hb] at hk
        have := Option.some.inj hk
        exact .inr ⟨by omega, by omega⟩
  · rcases hb with hb | hb
    · rw [hb] at e; exact h.ap g hg' e
    · rw [hb] at e
      have := Option.some.inj e
      have := owns_lt h.rk g hg'
      omega
theorem HoldsInv.alloc (h : HoldsInv B w0 P wd ps kv ov nk no ks os w) (o : Obj) : HoldsInv B w0 P wd ps kv ov nk no ks os (w.alloc o) := h.below ((Below.refl _ _).alloc (Nat.le_refl _) _)
end
/-- What the lists hold: each key is that of its bytes, and they are there. -/
def HoldsP (wd : Int) (ps : List Pr) (n : Nat) (ks os : List (List UInt8)) : Prop := ks = os.map (casKey wd) ∧ os.length = n ∧ (∀ o ∈ os, (casKey wd o, o) ∈ ps) ∧ ∀ o ∈ os, o.length ≤ 65536
theorem HoldsP.more {wd : Int} {ps ps' : List Pr} {n : Nat} {ks os : List (List UInt8)} {b : List UInt8} (h : HoldsP wd ps n ks os) (hp : ∀ p, p ∈ ps' ↔ p = (casKey wd b, b) ∨ p ∈ ps) (hb : b.length ≤ 65536) : HoldsP wd ps' (n + 1) (ks ++ [casKey wd b]) (os ++ [b]) := by
  obtain ⟨rfl, h2, h3, h4⟩ := h
  refine ⟨by simp, by simp [h2], fun o ho => ?_, fun o ho => ?_⟩
  · rcases List.mem_append.1 ho with ho | ho
    · exact (hp _).2 (.inr (h3 o ho))
    · obtain rfl : o = b := by simpa using ho
      exact (hp _).2 (.inl rfl)
  · rcases List.mem_append.1 ho with ho | ho
    · exact h4 o ho
    · obtain rfl : o = b := by simpa using ho
      exact hb
end Go.Proofs.Ytipindjchcmckaa
