/- DERIVED. The stages of a given stock, computed: with fuel, so that the kernel can do it. No program in sight. -/
import Derived.Test.YtaagkndhgicifaaGreatStgTr
namespace Go.Proofs.YtaagkndhgicifaaGreat
set_option linter.unusedVariables false

def solveF (n : Nat) (s : St) (p : Pk) (pool : List Pk) (left : Int) : Option (Ch5 × Int × Int) := match s.rec? p with
  | none => some (ch0, 0, 14)
  | some r => match s.fitsP pool r.tool with
    | [] => some (ch0, 0, 12)
    | t :: _ => if left < 1 then some (ch0, 0, 60) else match meetF (s.fitsP pool) s.runs n (left - 1).toNat r.build [] with
      | none => none
      | some (.ok ch, b) => some ((t, sortP ch), left - b, 0)
      | some (.clash, b) => some (ch0, left - b, 12)
      | some (.budget, b) => some (ch0, left - b, 60)
theorem solveF_T {n : Nat} {s : St} {p : Pk} {pool : List Pk} {left : Int} {r : Ch5 × Int × Int} (h : solveF n s p pool left = some r) : solveT s p pool left = r := by
  unfold solveF at h
  unfold solveT
  cases hr : s.rec? p with
  | none => rw [hr] at h; exact Option.some.inj h
  | some rc =>
    rw [hr] at h
    dsimp only at h ⊢
    cases hf : s.fitsP pool rc.tool with
    | nil => rw [hf] at h; exact Option.some.inj h
    | cons t ts =>
      rw [hf] at h
      dsimp only at h ⊢
      by_cases hl : left < 1
      · rw [if_pos hl] at h ⊢; exact Option.some.inj h
      · rw [if_neg hl] at h ⊢
        cases hm : meetF (s.fitsP pool) s.runs n (left - 1).toNat rc.build [] with
        | none => rw [hm] at h; cases h
        | some res =>
          rw [hm] at h
          rw [meet_of hm]
          rcases res with ⟨_ | _ | _, b⟩ <;> exact Option.some.inj h
def roundC (n : Nat) (st : St) (pool : List Pk) (left stage : Int) : List Pk → Int → Option (Option (Int × List Ent × List Pk))
  | [], made => some (some (made, [], []))
  | p :: ps, made => match solveF n st p pool (max left 0 - made) with
    | none => none
    | some (c, m, e) => if e = 60 then some none else match roundC n st pool left stage ps (made + m) with
      | none => none
      | some none => some none
      | some (some (m', es, less)) => if e = 0 then some (some (m', ⟨p, stage, c⟩ :: es, less)) else some (some (m', es, p :: less))
theorem roundC_T {n : Nat} {st : St} {pool : List Pk} {left stage : Int} : ∀ {ps : List Pk} {made : Int} {r}, roundC n st pool left stage ps made = some r → roundT st pool left stage ps made = r
  | [], made, r, h => by
    unfold roundC at h
    unfold roundT
    exact Option.some.inj h
  | p :: ps, made, r, h => by
    unfold roundC at h
    unfold roundT
    cases hs : solveF n st p pool (max left 0 - made) with
    | none => rw [hs] at h; cases h
    | some x =>
      obtain ⟨c, m, e⟩ := x
      rw [hs] at h
      rw [solveF_T hs]
      dsimp only at h ⊢
      by_cases h6 : e = 60
      · rw [if_pos h6] at h ⊢; exact Option.some.inj h
      · rw [if_neg h6] at h ⊢
        cases hr : roundC n st pool left stage ps (made + m) with
        | none => rw [hr] at h; cases h
        | some y =>
          rw [hr] at h
          rw [roundC_T hr]
          rcases y with _ | ⟨m', es, less⟩
          · exact Option.some.inj h
          · dsimp only at h ⊢
            by_cases h0 : e = 0
            · rw [if_pos h0] at h ⊢; exact Option.some.inj h
            · rw [if_neg h0] at h ⊢; exact Option.some.inj h
def fixC (n : Nat) (st : St) (left : Int) : Nat → Int → Int → List Ent → List Pk → Option (Option (List Ent × List Pk × Int))
  | 0, _, _, _, _ => some none
  | f + 1, stage, made, list, less => match roundC n st (list.map Ent.pkg) left stage less made with
    | none => none
    | some none => some none
    | some (some (m, [], l2)) => some (some (list, l2, m))
    | some (some (m, e :: es, l2)) => fixC n st left f (stage + 1) m (list ++ e :: es) l2
theorem fixC_T {n : Nat} {st : St} {left : Int} : ∀ {f : Nat} {stage made : Int} {list : List Ent} {less : List Pk} {r}, fixC n st left f stage made list less = some r → fixF st left f stage made list less = r
  | 0, _, _, _, _, r, h => by
    unfold fixC at h
    unfold fixF
    exact Option.some.inj h
  | f + 1, stage, made, list, less, r, h => by
    unfold fixC at h
    unfold fixF
    cases hr : roundC n st (list.map Ent.pkg) left stage less made with
    | none => rw [hr] at h; cases h
    | some y =>
      rw [hr] at h
      rw [roundC_T hr]
      rcases y with _ | ⟨m', _ | ⟨e, es⟩, l2⟩
      · exact Option.some.inj h
      · dsimp only at h ⊢
        rw [if_pos rfl]; exact Option.some.inj h
      · dsimp only at h ⊢
        rw [if_neg (by simp)]
        exact fixC_T h
def fixCT (n : Nat) (st : St) (left : Int) : Option (Option (List Ent × List Pk × Int)) := fixC n st left ((less0 st).length + 1) 1 0 (seeds0 st) (less0 st)
theorem fixCT_T {n : Nat} {st : St} {left : Int} {r : Option (List Ent × List Pk × Int)} (h : fixCT n st left = some r) : fixT st left = r := fixC_T h
end Go.Proofs.YtaagkndhgicifaaGreat
