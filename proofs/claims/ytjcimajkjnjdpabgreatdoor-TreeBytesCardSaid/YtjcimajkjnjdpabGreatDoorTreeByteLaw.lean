/- DERIVED. A tree read from bytes, as a plain function. -/
import Derived.Test.YtjcimajkjnjdpabGreatDoorTreeNode
import Derived.Test.YtjcimajkjnjdpabGreatDoorSexpSame
namespace Go.Proofs.YtjcimajkjnjdpabGreatDoor
open Go.RowKit
set_option linter.unusedVariables false

def fileOf : T → Option Pr
  | .mk false _ [.mk true p _, .mk true d _] => some (p, d)
  | _ => none
def fileD (t : T) : Pr := (fileOf t).getD ([], [])
def fileB (t : T) : Bool := (fileOf t).isSome
/-- What tree.Decode answers. -/
def treeD (s : List UInt8) : Except Int (List Pr) := match decT s with
  | .error e => .error e
  | .ok t => if (!t.leaf && t.kids.all fileB) && goodT (t.kids.map fileD) then .ok (t.kids.map fileD) else .error 5
def twoB (t : T) : Bool := t.kids.length == 2
def twoD : T → Pr
  | .mk _ _ (a :: b :: _) => (a.atom, b.atom)
  | _ => ([], [])
/-- What the reference's Decode answers. -/
def rtreeD (s : List UInt8) : Except Int (List Pr) := match decT s with
  | .error e => .error e
  | .ok t => if t.kids.all twoB && (sameT t (nodeT (t.kids.map twoD)) && goodT (t.kids.map twoD)) then .ok (t.kids.map twoD) else .error 5
theorem file_of (p : Pr) : fileB (fileT p) = true ∧ fileD (fileT p) = p ∧ twoB (fileT p) = true ∧ twoD (fileT p) = p := ⟨rfl, rfl, rfl, rfl⟩
theorem ok_file {d : Nat} : ∀ {k : T}, okT d k = true → fileB k = true → k = fileT (fileD k)
  | .mk false a [.mk true p k1, .mk true q k2], h, _ => by
    simp [okT, oksT] at h
    obtain ⟨⟨h1, h2⟩, h3, h4⟩ := h
    rw [h1, h3, h4]
    rfl
  | .mk true _ _, _, hb => by simp [fileB, fileOf] at hb
  | .mk false _ [], _, hb => by simp [fileB, fileOf] at hb
  | .mk false _ [_], _, hb => by simp [fileB, fileOf] at hb
  | .mk false _ (_ :: _ :: _ :: _), _, hb => by simp [fileB, fileOf] at hb
  | .mk false _ [.mk false _ _, _], _, hb => by simp [fileB, fileOf] at hb
  | .mk false _ [.mk true _ _, .mk false _ _], _, hb => by simp [fileB, fileOf] at hb
theorem oks_mem {d : Nat} : ∀ {ks : List T}, oksT d ks = true → ∀ k ∈ ks, okT d k = true
  | [], _, k, hk => by cases hk
  | k0 :: ks, h, k, hk => by
    unfold oksT at h
    rw [Bool.and_eq_true] at h
    rcases List.mem_cons.1 hk with rfl | hk
    · exact h.1
    · exact oks_mem h.2 k hk
theorem ok_open {d : Nat} {t : T} (h : okT d t = true) : (t.leaf = true → t.kids = []) ∧ (t.leaf = false → t.atom = [] ∧ ∀ k ∈ t.kids, okT (d + 1) k = true) := by
  obtain ⟨lf, a, ks⟩ := t
  unfold okT at h
  cases lf
  · simp only [Bool.false_eq_true, if_false, Bool.and_eq_true, List.isEmpty_iff] at h
    exact ⟨(fun e => by cases e), fun _ => ⟨h.1.1, oks_mem h.2⟩⟩
  · simp only [if_true, List.isEmpty_iff] at h
    exact ⟨fun _ => h, (fun e => by cases e)⟩
theorem map_file {ks : List T} {d : Nat} (h : ∀ k ∈ ks, okT d k = true) (hb : ks.all fileB = true) : ks = (ks.map fileD).map fileT ∧ ks.map twoD = ks.map fileD ∧ ks.all twoB = true := by
  induction ks with
  | nil => exact ⟨rfl, rfl, rfl⟩
  | cons k ks ih =>
    rw [List.all_cons, Bool.and_eq_true] at hb
    obtain ⟨h1, h2, h3⟩ := ih (fun x hx => h x (List.mem_cons_of_mem _ hx)) hb.2
    have hk := ok_file (h k (List.mem_cons_self ..)) hb.1
    have h4 : twoD k = fileD k := by
      have := (file_of (fileD k)).2.2.2
      rwa [← hk] at this
    have h5 : twoB k = true := by
      have := (file_of (fileD k)).2.2.1
      rwa [← hk] at this
    refine ⟨?_, ?_, ?_⟩
    · rw [List.map_cons, List.map_cons, ← hk, ← h1]
    · rw [List.map_cons, List.map_cons, h4, h2]
    · rw [List.all_cons, h5, h3]; rfl
theorem file_map (ps : List Pr) : (ps.map fileT).all fileB = true ∧ (ps.map fileT).map fileD = ps ∧ (ps.map fileT).all twoB = true ∧ (ps.map fileT).map twoD = ps := by
  induction ps with
  | nil => exact ⟨rfl, rfl, rfl, rfl⟩
  | cons p ps ih =>
    obtain ⟨h1, h2, h3, h4⟩ := ih
    exact ⟨by simpa using ⟨rfl, by simpa using h1⟩, by rw [List.map_cons, List.map_cons, h2]; rfl, by simpa using ⟨rfl, by simpa using h3⟩, by rw [List.map_cons, List.map_cons, h4]; rfl⟩
theorem node_of {t : T} {d : Nat} (h : okT d t = true) (hl : t.leaf = false) (hb : t.kids.all fileB = true) : t = nodeT (t.kids.map fileD) := by
  obtain ⟨h1, h2⟩ := (ok_open h).2 hl
  have hm := (map_file h2 hb).1
  obtain ⟨lf, a, ks⟩ := t
  dsimp only [T.leaf, T.atom, T.kids] at hl h1 hm ⊢
  unfold nodeT
  rw [hl, h1, ← hm]
theorem rtreeD_eq (s : List UInt8) : rtreeD s = treeD s := by
  unfold rtreeD treeD
  cases hd : decT s with
  | error e => rfl
  | ok t =>
    have hok := ((decT_iff s t).1 hd).1
    dsimp only
    cases hc : (!t.leaf && t.kids.all fileB)
    · rw [Bool.false_and, if_neg (c := (false = true)) (by simp), if_neg]
      intro h
      rw [Bool.and_eq_true, Bool.and_eq_true] at h
      have he := (sameT_iff _ _).1 h.2.1
      have h1 : t.leaf = false := by rw [he]; rfl
      have h2 : t.kids.all fileB = true := by
        rw [he]
        exact (file_map _).1
      rw [h1, h2] at hc
      cases hc
    · rw [Bool.and_eq_true] at hc
      have hl : t.leaf = false := by simpa using hc.1
      obtain ⟨_, h2⟩ := (ok_open hok).2 hl
      obtain ⟨h3, h4, h5⟩ := map_file h2 hc.2
      rw [h4, h5, ← node_of hok hl hc.2, sameT_refl]
      rfl
theorem tree_back {ts : List Pr} {b : List UInt8} (h : goodT ts = true) (he : encT (nodeT ts) = (b, 0)) : treeD b = .ok ts := by
  unfold treeD
  rw [dec_enc _ _ he]
  obtain ⟨h1, h2, _, _⟩ := file_map ts
  simp only [nodeT, T.leaf, T.kids, h1, h2, h]
  rfl
theorem back_tree {s : List UInt8} {ps : List Pr} (h : treeD s = .ok ps) : goodT ps = true ∧ bytesT ps = (s, 0) := by
  unfold treeD at h
  cases hd : decT s with
  | error e => rw [hd] at h; cases h
  | ok t =>
    rw [hd] at h
    dsimp only at h
    split at h
    · rename_i hc
      rw [Bool.and_eq_true, Bool.and_eq_true] at hc
      obtain rfl := Except.ok.inj h
      have hl : t.leaf = false := by simpa using hc.1.1
      refine ⟨hc.2, ?_⟩
      unfold bytesT
      rw [if_pos hc.2, ← node_of ((decT_iff s t).1 hd).1 hl hc.1.2]
      exact enc_dec t s hd
    · cases h
theorem decT_errs {s : List UInt8} {f : Int} (h : decT s = .error f) : f = 3 ∨ f = 4 ∨ f = 5 := by
  unfold decT at h
  split at h
  · exact .inl (Except.error.inj h).symm
  · split at h
    · rename_i e he
      rw [← Except.error.inj h]
      exact .inr (takeT_errs _ _ _ he)
    · cases h
    · exact .inr (.inr (Except.error.inj h).symm)
theorem treeD_errs {s : List UInt8} {f : Int} (h : treeD s = .error f) : f = 3 ∨ f = 4 ∨ f = 5 := by
  unfold treeD at h
  cases hd : decT s with
  | error e => rw [hd] at h; exact decT_errs (by rw [hd]; exact congrArg Except.error (Except.error.inj h))
  | ok t =>
    rw [hd] at h
    dsimp only at h
    split at h
    · cases h
    · exact .inr (.inr (Except.error.inj h).symm)
theorem cat_pos (t : T) : 1 ≤ (catT t).length := by
  obtain ⟨c, r, h, _⟩ := catT_ne t
  rw [h]; simp
theorem cats_len {ks : List T} : ks.length ≤ (catsT ks).length ∧ ∀ k ∈ ks, (catT k).length ≤ (catsT ks).length := by
  induction ks with
  | nil => exact ⟨Nat.le_refl _, fun k hk => by cases hk⟩
  | cons k ks ih =>
    have := cat_pos k
    simp only [catsT, List.length_append, List.length_cons]
    refine ⟨by omega, fun x hx => ?_⟩
    rcases List.mem_cons.1 hx with rfl | hx
    · omega
    · have := ih.2 x hx; omega
theorem cat_open {d : Nat} {t : T} (h : okT d t = true) : t.atom.length ≤ (catT t).length ∧ t.kids.length ≤ (catT t).length ∧ ∀ k ∈ t.kids, (catT k).length ≤ (catT t).length := by
  have ho := ok_open h
  obtain ⟨lf, a, ks⟩ := t
  dsimp only [T.leaf, T.atom, T.kids] at ho ⊢
  cases lf
  · obtain ⟨h1, h2⟩ := ho.2 rfl
    have := cats_len (ks := ks)
    simp only [catT, Bool.false_eq_true, if_false, List.length_cons, List.length_append, List.length_nil]
    refine ⟨by rw [h1]; simp, by omega, fun k hk => by have := this.2 k hk; omega⟩
  · rw [ho.1 rfl]
    have := atomB_len a
    simp only [catT, if_true]
    exact ⟨by omega, Nat.zero_le _, fun k hk => by cases hk⟩
theorem okT_kids {d : Nat} {t : T} (h : okT d t = true) : ∀ k ∈ t.kids, okT (d + 1) k = true := by
  intro k hk
  have ho := ok_open h
  cases hl : t.leaf
  · exact (ho.2 hl).2 k hk
  · rw [ho.1 hl] at hk; cases hk
theorem fileD_len {d N : Nat} : ∀ {k : T}, okT d k = true → (catT k).length ≤ N → (fileD k).1.length ≤ N ∧ (fileD k).2.length ≤ N ∧ (twoD k).1.length ≤ N ∧ (twoD k).2.length ≤ N := by
  intro k h hl
  have key : ∀ x ∈ k.kids, x.atom.length ≤ N := fun x hx => by
    have h1 := (cat_open (okT_kids h x hx)).1
    have h2 := (cat_open h).2.2 x hx
    omega
  have h2 : (twoD k).1.length ≤ N ∧ (twoD k).2.length ≤ N := by
    unfold twoD
    split
    · rename_i a b r
      exact ⟨key a (by simp [T.kids]), key b (by simp [T.kids])⟩
    · exact ⟨Nat.zero_le _, Nat.zero_le _⟩
  cases hb : fileB k
  · have : fileD k = ([], []) := by
      unfold fileB at hb
      unfold fileD
      cases hf : fileOf k with
      | none => rfl
      | some p => rw [hf] at hb; cases hb
    rw [this]
    exact ⟨Nat.zero_le _, Nat.zero_le _, h2⟩
  · have hk := ok_file h hb
    have h4 : twoD k = fileD k := by
      have := (file_of (fileD k)).2.2.2
      rwa [← hk] at this
    rw [← h4]
    exact ⟨h2.1, h2.2, h2⟩
/-- The sizes of what can be decoded. -/
theorem dec_sizes {s : List UInt8} {t : T} (h : decT s = .ok t) : t.kids.length ≤ 65536 ∧ ∀ k ∈ t.kids, (fileD k).1.length ≤ 65536 ∧ (fileD k).2.length ≤ 65536 ∧ (twoD k).1.length ≤ 65536 ∧ (twoD k).2.length ≤ 65536 := by
  obtain ⟨h1, h2, h3⟩ := (decT_iff s t).1 h
  rw [h2] at h3
  have ho := cat_open h1
  exact ⟨by omega, fun k hk => fileD_len (okT_kids h1 k hk) (by have := ho.2.2 k hk; omega)⟩
end Go.Proofs.YtjcimajkjnjdpabGreatDoor
