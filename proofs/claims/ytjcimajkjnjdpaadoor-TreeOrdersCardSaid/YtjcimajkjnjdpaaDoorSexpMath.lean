/- DERIVED. The bytes of a node, as plain functions. -/
import Derived.Test.YtjcimajkjnjdpaaDoorSexpCount
import Derived.Test.YtjcimajkjnjdpaaDoorSexpTab
namespace Go.Proofs.YtjcimajkjnjdpaaDoor
open Go.RowKit
set_option linter.unusedVariables false

/-- Are they too many? -/
def roomB (b : List UInt8) : Except Int (List UInt8) := if 65536 < b.length then .error 3 else .ok b
def atomB (a : List UInt8) : List UInt8 := Lib.itoa a.length ++ 58 :: a
mutual
/-- Bytes with a node's behind them, which stands within so many lists. -/
def putT (d : Nat) (b : List UInt8) : T → Except Int (List UInt8)
  | .mk lf a ks =>
    if lf then (if ks.isEmpty then (if 65536 < a.length then .error 3 else roomB (b ++ atomB a)) else .error 1)
    else if a.isEmpty then (if 32 ≤ d then .error 4 else match roomB (b ++ [40]) with
      | .error e => .error e
      | .ok b1 => match putsT (d + 1) b1 ks with
        | .error e => .error e
        | .ok b2 => roomB (b2 ++ [41])) else .error 1
def putsT (d : Nat) (b : List UInt8) : List T → Except Int (List UInt8)
  | [] => .ok b
  | k :: ks => match putT d b k with
    | .error e => .error e
    | .ok b1 => putsT d b1 ks
end
theorem roomB_ok {b c : List UInt8} (h : roomB b = .ok c) : c = b ∧ b.length ≤ 65536 := by
  unfold roomB at h
  split at h
  · cases h
  · exact ⟨(Except.ok.inj h).symm, by omega⟩
theorem roomB_err {b : List UInt8} {e : Int} (h : roomB b = .error e) : e = 3 ∧ 65536 < b.length := by
  unfold roomB at h
  split at h
  · rename_i hl; exact ⟨(Except.error.inj h).symm, hl⟩
  · cases h
mutual
theorem putT_len : ∀ (t : T) (d : Nat) (b c : List UInt8), putT d b t = .ok c → c.length ≤ 65536
  | .mk lf a ks, d, b, c, h => by
    unfold putT at h
    split at h
    · split at h
      · split at h
        · cases h
        · have := roomB_ok h; rw [this.1]; exact this.2
      · cases h
    · split at h
      · split at h
        · cases h
        · split at h
          · cases h
          · split at h
            · cases h
            · have := roomB_ok h; rw [this.1]; exact this.2
      · cases h
theorem putsT_len : ∀ (ks : List T) (d : Nat) (b c : List UInt8), b.length ≤ 65536 → putsT d b ks = .ok c → c.length ≤ 65536
  | [], d, b, c, hb, h => by
    unfold putsT at h
    rw [← Except.ok.inj h]; exact hb
  | k :: ks, d, b, c, hb, h => by
    unfold putsT at h
    split at h
    · cases h
    · rename_i b1 h1
      exact putsT_len ks d b1 c (putT_len k d b b1 h1) h
end

mutual
theorem putT_err : ∀ (t : T) (d : Nat) (b : List UInt8) (e : Int), putT d b t = .error e → e = 1 ∨ e = 3 ∨ e = 4
  | .mk lf a ks, d, b, e, h => by
    unfold putT at h
    split at h
    · split at h
      · split at h
        · exact .inr (.inl (Except.error.inj h).symm)
        · exact .inr (.inl (roomB_err h).1)
      · exact .inl (Except.error.inj h).symm
    · split at h
      · split at h
        · exact .inr (.inr (Except.error.inj h).symm)
        · split at h
          · rename_i e1 h1
            rw [← Except.error.inj h]; exact .inr (.inl (roomB_err h1).1)
          · split at h
            · rename_i e1 h1
              rw [← Except.error.inj h]; exact putsT_err ks (d + 1) _ e1 h1
            · exact .inr (.inl (roomB_err h).1)
      · exact .inl (Except.error.inj h).symm
theorem putsT_err : ∀ (ks : List T) (d : Nat) (b : List UInt8) (e : Int), putsT d b ks = .error e → e = 1 ∨ e = 3 ∨ e = 4
  | [], d, b, e, h => by unfold putsT at h; cases h
  | k :: ks, d, b, e, h => by
    unfold putsT at h
    split at h
    · rename_i e1 h1
      rw [← Except.error.inj h]; exact putT_err k d b e1 h1
    · exact putsT_err ks d _ e h
end
/-- A node's bytes, as Encode answers them. -/
def encT (t : T) : List UInt8 × Int := match putT 0 [] t with
  | .ok b => (b, 0)
  | .error e => ([], e)
theorem puts_drop {d : Nat} {b : List UInt8} {ks : List T} {k : Nat} {t : T} (h : ks[k]? = some t) : putsT d b (ks.drop k) = match putT d b t with
    | .error e => .error e
    | .ok b1 => putsT d b1 (ks.drop (k + 1)) := by
  obtain ⟨hk, rfl⟩ := List.getElem?_eq_some_iff.1 h
  rw [List.drop_eq_getElem_cons hk]
  conv => lhs; unfold putsT
end Go.Proofs.YtjcimajkjnjdpaaDoor
