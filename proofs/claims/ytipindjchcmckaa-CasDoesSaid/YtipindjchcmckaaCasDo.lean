/- DERIVED. CasDoes: what it needs beside the walks. -/
import Derived.Test.YtipindjchcmckaaCasHo
import Derived.Test.YtipindjchcmckaaCasRefP
import Derived.Test.YtipindjchcmckaaOver
namespace Go.Proofs.Ytipindjchcmckaa
open Go.RowKit Go.Shelf
set_option linter.unusedVariables false

theorem cas_same {wd : Int} {ps ps' : List Pr} {objs objs' : List (List UInt8)} {b key key2 : List UInt8} {err err2 err3 : Int} (ho : ObjP wd ps objs) (h1 : CputRel wd ps b key err ps') (h2 : RputRel wd ps objs b key2 err2 objs') (h3 : TryRel wd ps b err3) (hs : Srt ps') :
    key2 = key ∧ err2 = err ∧ err3 = err ∧ ObjP wd ps' objs' := by
  have hno : ∀ old, (casKey wd b, old) ∈ ps → old ≠ b → (casKey wd b, b) ∉ ps := fun old h hn h' => hn (Prod.mk.inj (ho.2.1.inj h h' rfl)).2
  rcases h1 with ⟨rfl, a1, rfl, rfl⟩ | ⟨rfl, a1, ⟨old, a2, a3⟩, rfl, rfl⟩ | ⟨rfl, a1, rfl, a2, a3⟩
  · rcases h2 with ⟨rfl, b1, rfl, rfl⟩ | ⟨_, b1, _⟩ | ⟨_, b1, _⟩
    · rcases h3 with ⟨rfl, _⟩ | ⟨_, c1, _⟩ | ⟨_, c1, _⟩
      · exact ⟨rfl, rfl, rfl, ho⟩
      · omega
      · omega
    · omega
    · omega
  · rcases h2 with ⟨_, b1, _⟩ | ⟨rfl, b1, _, rfl, rfl⟩ | ⟨_, b1, _, ⟨b2, _⟩ | ⟨b2, _⟩⟩
    · omega
    · rcases h3 with ⟨_, c1⟩ | ⟨rfl, _⟩ | ⟨_, _, c2 | c2⟩
      · omega
      · exact ⟨rfl, rfl, rfl, ho⟩
      · exact absurd c2 (hno old a2 a3)
      · exact absurd a2 (c2 old)
    · exact absurd b2 (hno old a2 a3)
    · exact absurd a2 (b2 old)
  · have h3' : err3 = 0 := by
      rcases h3 with ⟨_, c1⟩ | ⟨_, _, old, c2, c3⟩ | ⟨rfl, _⟩
      · omega
      · rcases a3 with ⟨a3, _⟩ | ⟨a3, _⟩
        · exact absurd a3 (hno old c2 c3)
        · exact absurd c2 (a3 old)
      · rfl
    rcases h2 with ⟨_, b1, _⟩ | ⟨_, b1, ⟨old, b2, b3⟩, _⟩ | ⟨rfl, b1, rfl, b2⟩
    · omega
    · rcases a3 with ⟨a3, _⟩ | ⟨a3, _⟩
      · exact absurd a3 (hno old b2 b3)
      · exact absurd b2 (a3 old)
    · refine ⟨rfl, rfl, h3', ?_⟩
      rcases a3 with ⟨a3, rfl⟩ | ⟨a3, a4⟩
      · rcases b2 with ⟨_, rfl⟩ | ⟨b2, _⟩
        · exact ho
        · exact absurd a3 (b2 b)
      · rcases b2 with ⟨b2, _⟩ | ⟨_, rfl⟩
        · exact absurd b2 (a3 b)
        · refine ⟨fun p => ?_, hs, by rw [a4, ho.2.2.1]; simp, ?_⟩
          · rw [a2 p, ho.1 p]
            constructor
            · rintro (rfl | ⟨c, hc, rfl⟩)
              · exact ⟨b, by simp, rfl⟩
              · exact ⟨c, List.mem_append_left _ hc, rfl⟩
            · rintro ⟨c, hc, rfl⟩
              rcases List.mem_append.1 hc with hc | hc
              · exact .inr ⟨c, hc, rfl⟩
              · obtain rfl : c = b := by simpa using hc
                exact .inl rfl
          · intro c hc
            rcases List.mem_append.1 hc with hc | hc
            · exact ho.2.2.2 c hc
            · obtain rfl : c = b := by simpa using hc
              exact a1
theorem get_same {ps : List Pr} {k v1 v2 : List UInt8} {b1 b2 : Bool} (hs : Srt ps) (h1 : b1 = true → (k, v1) ∈ ps) (h2 : b1 = false → v1 = [] ∧ ∀ v, (k, v) ∉ ps) (g1 : b2 = true → (k, v2) ∈ ps) (g2 : b2 = false → v2 = [] ∧ ∀ v, (k, v) ∉ ps) : v1 = v2 ∧ b1 = b2 := by
  cases b1
  · cases b2
    · exact ⟨(h2 rfl).1.trans (g2 rfl).1.symm, rfl⟩
    · exact absurd (g1 rfl) ((h2 rfl).2 v2)
  · cases b2
    · exact absurd (h1 rfl) ((g2 rfl).2 v1)
    · exact ⟨(Prod.mk.inj (hs.inj (h1 rfl) (g1 rfl) rfl)).2, rfl⟩
theorem with_try {B : Nat} {w0 w : World} {P : Nat} {wd : Int} {ps : List Pr} {F : List Nat} (h : CasWith B w0 P wd ps F w) (hl : ps.length ≤ 1000000) (b : List UInt8) (hb : b.length ≤ 140737488351232) :
    Calls Try.prog 10 #[.pointer (some ⟨P, 0, none⟩), strV b] w (TryTo wd ps b w) := by
  obtain ⟨S, v, h1, h2, h3, h4, h5⟩ := h
  exact ctry_any w P S v wd ps h1 hl b hb
theorem with_len {B : Nat} {w0 w : World} {P : Nat} {wd : Int} {ps : List Pr} {F : List Nat} (h : CasWith B w0 P wd ps F w) :
    Calls Try.prog 15 #[.pointer (some ⟨P, 0, none⟩)] w fun e w' => e = .returned (.int .i64 ps.length) ∧ w = w' := by
  obtain ⟨S, v, h1, h2, h3, h4, h5⟩ := h
  exact clen_any w P S v wd ps h1
/-- A new block is apart. -/
theorem CasWith.mark {B : Nat} {w0 w : World} {P : Nat} {wd : Int} {ps : List Pr} {F : List Nat} (h : CasWith B w0 P wd ps F w) (o : Obj) : CasWith B w0 P wd ps (w.heap.size :: F) (w.alloc o) := by
  have h' := h.below ((Below.refl _ w).alloc (Nat.le_refl _) o)
  obtain ⟨S, v, h1, h2, h3, h4, h5⟩ := h
  obtain ⟨S', v', g1, g2, g3, g4, g5⟩ := h'
  have hk := h1.below ((Below.refl _ w).alloc (Nat.le_refl _) o)
  refine ⟨S, v, hk, fun k hk => ⟨(h2 k hk).1, ?_⟩, fun k hk => ?_, g4, g5⟩
  · intro h
    rcases List.mem_cons.1 h with rfl | h
    · have := h1.lt _ hk; omega
    · exact (h2 k hk).2 h
  · rcases List.mem_cons.1 hk with rfl | hk
    · simp
    · exact g3 k hk
/-- The store, the variable m in block M, its objects. -/
structure DoesInv (B : Nat) (w0 : World) (P M : Nat) (wd : Int) (ps : List Pr) (a : Option Addr) (c : Nat) (objs : List (List UInt8)) (w : World) : Prop where
  st : CasWith B w0 P wd ps (M :: (Value.slice a objs.length c).ownBlock.toList) w
  var : w.heap[M]? = some (.cells #[.int .i64 wd, .slice a objs.length c] 28 (0, 0))
  rd : Rd w (.slice a objs.length c) (strsV objs)
  ap : ∀ g, (Value.slice a objs.length c).ownBlock = some g → g ≠ M
  ge : B ≤ M
section
variable {B : Nat} {w0 w w' : World} {P M : Nat} {wd : Int} {ps ps' : List Pr} {a a' : Option Addr} {c c' : Nat} {objs objs' : List (List UInt8)}
theorem DoesInv.below (h : DoesInv B w0 P M wd ps a c objs w) (hb : Below w.heap.size w w') : DoesInv B w0 P M wd ps a c objs w' :=
  ⟨h.st.below hb, (hb.block M (lt_of_heap h.var)).trans h.var, h.rd.below hb, h.ap, h.ge⟩
theorem Rd.same {v : Value} {xs : List Value} (h : Rd w v xs) (hb : ∀ k, v.ownBlock = some k → w'.heap[k]? = w.heap[k]?) : Rd w' v xs := by
  obtain ⟨a, cap, rfl, h1, h2, h3⟩ := h
  refine ⟨a, cap, rfl, h1, h2, fun ad e j u hj => ?_⟩
  subst e
  have hk := hb ad.block rfl
  have hadb : (ad.add j).block = ad.block := by unfold Addr.add; split <;> rfl
  exact (World.cell?_of_block (w := w) (w' := w') (a := ad.add j) (by rw [hadb]; exact hk)).trans (h3 ad rfl j u hj)
theorem DoesInv.put (h : DoesInv B w0 P M wd ps a c objs w) (hs : CasWith B w0 P wd ps' (M :: (Value.slice a objs.length c).ownBlock.toList) w') (hk : ∀ k ∈ M :: (Value.slice a objs.length c).ownBlock.toList, w'.heap[k]? = w.heap[k]?) : DoesInv B w0 P M wd ps' a c objs w' :=
  ⟨hs, (hk M (by simp)).trans h.var, h.rd.same (fun k e => hk k (by simp [e])), h.ap, h.ge⟩
/-- The variable takes what the reference's Put has answered. -/
theorem DoesInv.store {W : World} (h : DoesInv B w0 P M wd ps a c objs w) (hb : Below w.heap.size w w') (hrd : Rd w' (.slice a' objs'.length c') (strsV objs')) (hnew : a' = a ∨ ∃ ad, a' = some ad ∧ w.heap.size ≤ ad.block ∧ ad.block < w'.heap.size)
    (hW : W = (w'.setCell ⟨M, 0, none⟩ (.int .i64 wd)).setCell ⟨M, 1, none⟩ (.slice a' objs'.length c')) : DoesInv B w0 P M wd ps a' c' objs' W := by
  have h1 := h.below hb
  have hO : Only M w' W := by rw [hW]; exact (Only.refl M _).setCell.setCell
  have hMl := lt_of_heap h1.var
  have hF : ∀ k, (Value.slice a' objs'.length c').ownBlock = some k → (Value.slice a objs.length c).ownBlock = some k ∨ (w.heap.size ≤ k ∧ k < w'.heap.size) := by
    intro k hk
    rcases hnew with rfl | ⟨ad, rfl, g1, g2⟩
    · left
      cases a' with
      | none => cases hk
      | some ad => exact hk
    · right
      obtain rfl : ad.block = k := by simpa [Value.ownBlock] using hk
      exact ⟨g1, g2⟩
  have hMw := lt_of_heap h.var
  have hne : ∀ k, (Value.slice a' objs'.length c').ownBlock = some k → k ≠ M := by
    intro k hk
    rcases hF k hk with e | e
    · exact h.ap k e
    · omega
  refine ⟨?_, ?_, ?_, hne, h.ge⟩
  · obtain ⟨S, v, s1, s2, s3, s4, s5⟩ := h.st
    have s1' := s1.below hb
    have hMf : ∀ k ∈ stFoot P S v, k ≠ M := fun k hk e => (s2 k hk).2 (by rw [e]; simp)
    refine ⟨S, v, s1'.keep (fun k hk => hO.block k (hMf k hk)), fun k hk => ⟨(s2 k hk).1, fun hk' => ?_⟩, fun k hk => ?_, ?_, ?_⟩
    · rcases List.mem_cons.1 hk' with e | hk'
      · exact hMf k hk e
      · rcases hF k (by simpa using hk') with e | e
        · exact (s2 k hk).2 (by simp [e])
        · have := s1.lt k hk; omega
    · rw [hO.size]
      rcases List.mem_cons.1 hk with rfl | hk
      · exact hMl
      · rcases hF k (by simpa using hk) with e | e
        · have := s3 k (by simp [e]); have := hb.size; omega
        · omega
    · have hch : Ch [M] w W := hO.ch (Ch.of_below hb [M]) (.inl (by simp))
      exact s4.trans (below_of_ch hch (fun k hk => by obtain rfl : k = M := by simpa using hk
                                                      exact h.ge) s5)
    · rw [hO.size]; have := hb.size; omega
  · rw [hW]
    exact heap_setCell_here _ (heap_setCell_here _ h1.var)
  · exact hrd.same (fun k hk => hO.block k (hne k hk))
end
end Go.Proofs.Ytipindjchcmckaa
