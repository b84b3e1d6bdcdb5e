/- DERIVED. What a good answer says, what a bad answer says, on what an answer hangs. No program in sight. -/
import Derived.Test.YtaagkndhgicifaaGreatSv10
namespace Go.Proofs.YtaagkndhgicifaaGreat
set_option linter.unusedVariables false
def metB (ds : List Dp) (ps : List Pk) : Bool := ds.all fun d => ps.any (willB d)
def oneB (ps : List Pk) : Bool := decide ((ps.map Prod.fst).Nodup)
def holdsB (st : St) (p : Pk) (pool : List Pk) (c : Ch5) : Bool := match st.rec? p with
 | none => false
 | some r => willB r.tool c.1 && inP pool c.1 && st.has c.1 && metB r.build c.2 && oneB c.2 && c.2.all (fun q => inP pool q && st.has q && metB (st.runs q) c.2)
theorem metB_iff {ds : List Dp} {ps : List Pk} : metB ds ps = true ↔ ∀ d ∈ ds, ∃ p ∈ ps, willB d p = true := by simp [metB]
theorem mem_fitsP2 {st : St} {pool : List Pk} {d : Dp} {p : Pk} : p ∈ st.fitsP pool d ↔ p ∈ pool ∧ p ∈ st.pkgs ∧ willB d p = true := by
 unfold St.fitsP St.fits
 rw [List.mem_filter, List.mem_reverse, List.mem_filter, St.mem_all, inP_iff]
 exact and_comm
structure Inv (st : St) (pool : List Pk) (build : List Dp) (ws : List Dp) (ch : List Pk) : Prop where
 build : ∀ d ∈ build, d ∈ ws ∨ ∃ p ∈ ch, willB d p = true
 runs : ∀ q ∈ ch, ∀ d ∈ st.runs q, d ∈ ws ∨ ∃ p ∈ ch, willB d p = true
 inn : ∀ q ∈ ch, q ∈ pool ∧ q ∈ st.pkgs
 one : (ch.map Prod.fst).Nodup
theorem inv_end {st : St} {pool : List Pk} {build : List Dp} {n b : Nat} {c : List Pk} {b' : Nat} (h : meetF (st.fitsP pool) st.runs n b build [] = some (.ok c, b')) : Inv st pool build [] c ∧ b' + c.length ≤ b := by
 have k1 : ∀ (d : Dp) (rest : List Dp) (ch : List Pk) (p : Pk), ch.find? (fun q => decide (q.1 = d.1)) = some p → willB d p = true → Inv st pool build (d :: rest) ch → Inv st pool build rest ch := by
  intro d rest ch p hf hw hi
  have hm := List.mem_of_find?_eq_some hf
  refine ⟨fun x hx => ?_, fun q hq x hx => ?_, hi.inn, hi.one⟩
  ·rcases hi.build x hx with h | h
   ·rcases List.mem_cons.1 h with rfl | h
    ·exact .inr ⟨p, hm, hw⟩
    ·exact .inl h
   ·exact .inr h
  ·rcases hi.runs q hq x hx with h | h
   ·rcases List.mem_cons.1 h with rfl | h
    ·exact .inr ⟨p, hm, hw⟩
    ·exact .inl h
   ·exact .inr h
 have k2 : ∀ (d : Dp) (rest : List Dp) (ch : List Pk) (p : Pk), ch.find? (fun q => decide (q.1 = d.1)) = none → p ∈ st.fitsP pool d → Inv st pool build (d :: rest) ch → Inv st pool build (rest ++ st.runs p) (ch ++ [p]) := by
  intro d rest ch p hf hp hi
  obtain ⟨hp1, hp2, hp3⟩ := mem_fitsP2.1 hp
  have up : ∀ x : Dp, (∃ q ∈ ch, willB x q = true) → ∃ q ∈ ch ++ [p], willB x q = true := fun x ⟨q, hq, hw⟩ => ⟨q, List.mem_append_left _ hq, hw⟩
  have hd : ∃ q ∈ ch ++ [p], willB d q = true := ⟨p, List.mem_append_right _ (mSg.2 rfl), hp3⟩
  refine ⟨fun x hx => ?_, fun q hq x hx => ?_, fun q hq => ?_, ?_⟩
  ·rcases hi.build x hx with h | h
   ·rcases List.mem_cons.1 h with rfl | h
    ·exact .inr hd
    ·exact .inl (List.mem_append_left _ h)
   ·exact .inr (up x h)
  ·rcases List.mem_append.1 hq with hq | hq
   ·rcases hi.runs q hq x hx with h | h
    ·rcases List.mem_cons.1 h with rfl | h
     ·exact .inr hd
     ·exact .inl (List.mem_append_left _ h)
    ·exact .inr (up x h)
   ·obtain rfl := mSg.1 hq
    exact .inl (List.mem_append_right _ hx)
  ·rcases List.mem_append.1 hq with hq | hq
   ·exact hi.inn q hq
   ·obtain rfl := mSg.1 hq
    exact ⟨hp1, hp2⟩
  ·rw [List.map_append, List.nodup_append]
   refine ⟨hi.one, by simp, fun a ha x hx => ?_⟩
   simp only [List.map_cons, List.map_nil, mSg] at hx
   subst hx
   rintro rfl
   obtain ⟨q, hq, hqa⟩ := List.mem_map.1 ha
   have := List.find?_eq_none.1 hf q hq
   have hpd : p.1 = d.1 := fits_name (st := st) (pool := pool) p hp
   simp [hqa, hpd] at this
 obtain ⟨h1, h2, -⟩ := meetF_inv (I := Inv st pool build) k1 k2 n b build [] c b' h ⟨fun d hd => .inl hd, (fun q hq => by cases hq), (fun q hq => by cases hq), List.nodup_nil⟩
 exact ⟨h1, by simpa using h2⟩
theorem nodup_of_perm_names {l c : List Pk} (h : (c.map Prod.fst).Nodup) (hl : SrtP l) (hm : ∀ p, p ∈ l ↔ p ∈ c) : l.Pairwise fun a b => Op.bytesLess a.1 b.1 = true := by
 refine List.Pairwise.imp_of_mem (fun {a b} ha hb hab => ?_) hl
 unfold pkLt at hab
 split at hab
 ·rename_i e
  have h1 := (hm a).1 ha
  have h2 := (hm b).1 hb
  have : a = b := by
   obtain ⟨i, hi⟩ := List.mem_iff_getElem?.1 h1
   obtain ⟨j, hj⟩ := List.mem_iff_getElem?.1 h2
   have hil := (gEs.1 hi).1
   have e1 : (c.map Prod.fst)[i]? = (c.map Prod.fst)[j]? := by rw [List.getElem?_map, List.getElem?_map, hi, hj]; simp [e]
   have e2 := (List.getElem?_inj (by simpa using hil) h).1 e1
   subst e2
   rw [hi] at hj
   exact sIj hj
  subst this
  rw [verLt_irr] at hab
  cases hab
 ·exact hab
theorem names_nodup {l : List Pk} (h : l.Pairwise fun a b => Op.bytesLess a.1 b.1 = true) : (l.map Prod.fst).Nodup := by
 unfold List.Nodup
 rw [List.pairwise_map]
 exact h.imp (fun h => less_ne h)
theorem sortP_lenL {c : List Pk} (h : (c.map Prod.fst).Nodup) : (sortP c).length = c.length := by
 have hc : c.Nodup := (List.pairwise_map.1 h).imp (fun h e => h (by rw [e]))
 have hs : (sortP c).Nodup := (sortP_srt c).imp pkLt_ne
 exact Nat.le_antisymm (List.Nodup.length_le_of_subset hs (fun p hp => mem_sortP.1 hp)) (List.Nodup.length_le_of_subset hc (fun p hp => mem_sortP.2 hp))
theorem solve_holds {st : St} {p : Pk} {pool : List Pk} {left : Int} {c : Ch5} {n : Int} (h : solveT st p pool left = (c, n, 0)) :
  holdsB st p pool c = true ∧ (c.2.Pairwise fun a b => Op.bytesLess a.1 b.1 = true) ∧ 1 + (c.2.length : Int) ≤ n ∧ n ≤ left := by
 unfold solveT at h
 unfold holdsB
 cases hr : st.rec? p with
 | none => rw [hr] at h; cases h
 | some r =>
  rw [hr] at h
  dsimp only at h ⊢
  cases hf : st.fitsP pool r.tool with
  | nil => rw [hf] at h; cases h
  | cons t ts =>
   rw [hf] at h
   dsimp only at h
   obtain ⟨t1, t2, t3⟩ := mem_fitsP2.1 (show t ∈ st.fitsP pool r.tool by rw [hf]; exact mCs ..)
   by_cases hl : left < 1
   ·rw [if_pos hl] at h; cases h
   ·rw [if_neg hl] at h
    obtain ⟨m, hm, -⟩ := meet_some (st.fitsP pool) st.runs (left - 1).toNat r.build []
    generalize meet (st.fitsP pool) st.runs (left - 1).toNat r.build [] = res at h hm
    obtain ⟨res, b⟩ := res
    cases res with
    | clash => cases h
    | budget => cases h
    | ok ch =>
     obtain ⟨hi, hle⟩ := inv_end hm
     injection h with h1 h2
     injection h2 with h2 _
     subst h1 h2
     have hp := nodup_of_perm_names hi.one (sortP_srt ch) (fun p => mem_sortP)
     refine ⟨?_, hp, ?_, by omega⟩
     ·simp only [Bool.and_eq_true, List.all_eq_true]
      have lift : ∀ d : Dp, (∃ q ∈ ch, willB d q = true) → ∃ q ∈ sortP ch, willB d q = true := fun d ⟨q, hq, hw⟩ => ⟨q, mem_sortP.2 hq, hw⟩
      refine ⟨⟨⟨⟨⟨t3, inP_iff.2 t1⟩, St.has_iff.2 t2⟩, metB_iff.2 fun d hd => ?_⟩, decide_eq_true (names_nodup hp)⟩, fun q hq => ⟨⟨inP_iff.2 (hi.inn q (mem_sortP.1 hq)).1, St.has_iff.2 (hi.inn q (mem_sortP.1 hq)).2⟩, metB_iff.2 fun d hd => ?_⟩⟩
      ·rcases hi.build d hd with h | h
       ·cases h
       ·exact lift d h
      ·rcases hi.runs q (mem_sortP.1 hq) d hd with h | h
       ·cases h
       ·exact lift d h
     ·dsimp only
      rw [sortP_lenL hi.one]
      omega
end Go.Proofs.YtaagkndhgicifaaGreat
