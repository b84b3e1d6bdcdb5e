/- DERIVED. Reading a node, as plain functions: there and back, no beginning, lists. -/
import Derived.Test.YtjcimajkjnjdpabGreatDoorMSexp
import Derived.Lib.ItoaLen
namespace Go.Proofs.YtjcimajkjnjdpabGreatDoor
open Go.RowKit
set_option linter.unusedVariables false
set_option maxRecDepth 100000

/-! ### Decimal numerals -/
def isDig (c : UInt8) : Bool := decide (48 ≤ c.toNat) && decide (c.toNat ≤ 57)
def decVal (l : List UInt8) : Nat := l.foldl (fun n c => n * 10 + (c.toNat - 48)) 0
theorem decVal_snoc (l : List UInt8) (c : UInt8) : decVal (l ++ [c]) = decVal l * 10 + (c.toNat - 48) := by simp [decVal]
theorem isDig_iff {c : UInt8} : isDig c = true ↔ 48 ≤ c.toNat ∧ c.toNat ≤ 57 := by simp [isDig]
theorem dig_ofNat {u : Nat} (h : u < 10) : (UInt8.ofNat (48 + u)).toNat = 48 + u := by simp; omega
theorem decDigits_small {u : Nat} (h : u < 10) : Lib.decDigits u = [UInt8.ofNat (48 + u)] := by rw [Lib.decDigits, dif_pos h]
theorem decDigits_big {u : Nat} (h : ¬ u < 10) : Lib.decDigits u = Lib.decDigits (u / 10) ++ [UInt8.ofNat (48 + u % 10)] := by rw [Lib.decDigits, dif_neg h]
theorem decDigits_dig (u : Nat) : ∀ c ∈ Lib.decDigits u, isDig c = true := by
  induction u using Nat.strongRecOn with
  | _ u ih =>
    intro c hc
    by_cases h : u < 10
    · rw [decDigits_small h] at hc
      obtain rfl := List.mem_singleton.1 hc
      rw [isDig_iff, dig_ofNat h]; omega
    · rw [decDigits_big h] at hc
      rcases List.mem_append.1 hc with hc | hc
      · exact ih (u / 10) (by omega) c hc
      · obtain rfl := List.mem_singleton.1 hc
        rw [isDig_iff, dig_ofNat (by omega)]; omega
theorem decVal_decDigits (u : Nat) : decVal (Lib.decDigits u) = u := by
  induction u using Nat.strongRecOn with
  | _ u ih =>
    by_cases h : u < 10
    · rw [decDigits_small h, show [UInt8.ofNat (48 + u)] = [] ++ [UInt8.ofNat (48 + u)] from rfl, decVal_snoc, dig_ofNat h]
      simp [decVal]
    · rw [decDigits_big h, decVal_snoc, ih (u / 10) (by omega), dig_ofNat (by omega)]
      omega
theorem decDigits_ne (u : Nat) : Lib.decDigits u ≠ [] := by
  by_cases h : u < 10
  · rw [decDigits_small h]; simp
  · rw [decDigits_big h]; simp
theorem decDigits_head (u : Nat) (h : 1 ≤ u) : (Lib.decDigits u).head? ≠ some 48 := by
  induction u using Nat.strongRecOn with
  | _ u ih =>
    by_cases hl : u < 10
    · rw [decDigits_small hl]
      intro e
      have e1 := Option.some.inj e
      have := congrArg UInt8.toNat e1
      rw [dig_ofNat hl] at this
      simp at this; omega
    · rw [decDigits_big hl]
      have := ih (u / 10) (by omega) (by omega)
      cases hd : Lib.decDigits (u / 10) with
      | nil => exact absurd hd (decDigits_ne _)
      | cons c r => rw [hd] at this; simpa using this
theorem snoc_indS {P : List UInt8 → Prop} (h0 : P []) (h1 : ∀ l c, P l → P (l ++ [c])) (l : List UInt8) : P l := by
  have : ∀ l : List UInt8, P l.reverse := by
    intro l
    induction l with
    | nil => exact h0
    | cons c l ih => rw [List.reverse_cons]; exact h1 _ _ ih
  simpa using this l.reverse
theorem decVal_pos {l : List UInt8} (hd : ∀ c ∈ l, isDig c = true) (hne : l ≠ []) (hh : l.head? ≠ some 48) : 1 ≤ decVal l := by
  induction l using snoc_indS with
  | h0 => exact absurd rfl hne
  | h1 l c ih =>
    rw [decVal_snoc]
    cases l with
    | nil =>
      have h1 := isDig_iff.1 (hd c (by simp))
      have h2 : c.toNat ≠ 48 := by
        intro e
        apply hh
        simp
        exact UInt8.toNat.inj (by simpa using e)
      simp [decVal]; omega
    | cons a r =>
      have := ih (fun c hc => hd c (List.mem_append_left _ hc)) (by simp) (by simpa using hh)
      omega
theorem decDigits_decVal {l : List UInt8} (hd : ∀ c ∈ l, isDig c = true) (hne : l ≠ []) (hh : l.head? ≠ some 48 ∨ l.length = 1) : Lib.decDigits (decVal l) = l := by
  induction l using snoc_indS with
  | h0 => exact absurd rfl hne
  | h1 l c ih =>
    have hc := isDig_iff.1 (hd c (by simp))
    have ec : ∀ k, k = c.toNat - 48 → UInt8.ofNat (48 + k) = c := by
      intro k hk
      apply UInt8.toNat.inj
      rw [dig_ofNat (by omega)]; omega
    cases l with
    | nil =>
      have e : decVal ([] ++ [c]) = c.toNat - 48 := by rw [decVal_snoc]; simp [decVal]
      rw [e, decDigits_small (by omega), ec _ rfl]; rfl
    | cons a r =>
      have hh' : (a :: r).head? ≠ some 48 := by
        rcases hh with h | h
        · simpa using h
        · simp at h
      have hd' : ∀ c ∈ a :: r, isDig c = true := fun c hc => hd c (List.mem_append_left _ hc)
      have h1 := ih hd' (by simp) (.inl hh')
      have h2 := decVal_pos hd' (by simp) hh'
      rw [decVal_snoc, decDigits_big (by omega), show (decVal (a :: r) * 10 + (c.toNat - 48)) / 10 = decVal (a :: r) from by omega, h1, ec _ (by omega)]
/-- What 'digits != Itoa(n)' asks of digits. -/
theorem decDigits_iff {l : List UInt8} (hd : ∀ c ∈ l, isDig c = true) (hne : l ≠ []) : Lib.decDigits (decVal l) = l ↔ (l.head? ≠ some 48 ∨ l.length = 1) := by
  constructor
  · intro h
    by_cases hv : decVal l < 10
    · right
      rw [← h, decDigits_small hv]; rfl
    · left
      rw [← h]; exact decDigits_head _ (by omega)
  · exact decDigits_decVal hd hne
theorem decVal_lt {l : List UInt8} (hd : ∀ c ∈ l, isDig c = true) : decVal l < 10 ^ l.length := by
  induction l using snoc_indS with
  | h0 => simp [decVal]
  | h1 l c ih =>
    have hc := isDig_iff.1 (hd c (by simp))
    have := ih (fun c hc => hd c (by simp [hc]))
    rw [decVal_snoc, List.length_append, List.length_singleton, Nat.pow_succ]
    omega
/-! ### Reading -/
/-- The atom that bytes begin with, and what is behind. -/
def textT (s : List UInt8) : Except Int (T × List UInt8) :=
  match s.drop (s.takeWhile isDig).length with
  | [] => .error 5
  | c :: r => if c = 58 ∧ s.takeWhile isDig ≠ [] ∧ (s.takeWhile isDig).length ≤ 5 ∧ (s.head? ≠ some 48 ∨ (s.takeWhile isDig).length = 1) ∧ decVal (s.takeWhile isDig) ≤ r.length then
      .ok (.mk true (r.take (decVal (s.takeWhile isDig))) [], r.drop (decVal (s.takeWhile isDig))) else .error 5
/-- The nodes up to the closing bracket. -/
def takesT (f : List UInt8 → Except Int (T × List UInt8)) : Nat → List UInt8 → Except Int (List T × List UInt8)
  | _, [] => .error 5
  | 0, _ => .error 5
  | n + 1, c :: r => if c = 41 then .ok ([], r) else match f (c :: r) with
    | .error e => .error e
    | .ok (t, r') => match takesT f n r' with
      | .error e => .error e
      | .ok (ts, r'') => .ok (t :: ts, r'')
/-- The node that bytes begin with, where so many lists more may stand within one another. -/
def takeT : Nat → List UInt8 → Except Int (T × List UInt8)
  | _, [] => .error 5
  | 0, c :: r => if c = 40 then .error 4 else textT (c :: r)
  | d + 1, c :: r => if c = 40 then (match takesT (takeT d) r.length r with
    | .error e => .error e
    | .ok (ts, r') => .ok (.mk false [] ts, r')) else textT (c :: r)
/-- The node that bytes are. -/
def decT (s : List UInt8) : Except Int T := if 65536 < s.length then .error 3 else match takeT 32 s with
  | .error e => .error e
  | .ok (t, []) => .ok t
  | .ok (_, _ :: _) => .error 5

/-! ### The bytes without the looks -/
mutual
def catT : T → List UInt8
  | .mk lf a ks => if lf then atomB a else 40 :: (catsT ks ++ [41])
def catsT : List T → List UInt8
  | [] => []
  | k :: ks => catT k ++ catsT ks
end
mutual
def okT (d : Nat) : T → Bool
  | .mk lf a ks => if lf then ks.isEmpty else a.isEmpty && decide (d < 32) && oksT (d + 1) ks
def oksT (d : Nat) : List T → Bool
  | [] => true
  | k :: ks => okT d k && oksT d ks
end
theorem roomB_iff {b c : List UInt8} : roomB b = .ok c ↔ c = b ∧ c.length ≤ 65536 := by
  unfold roomB
  split
  · simp; intro h; subst h; omega
  · simp; constructor
    · rintro rfl; exact ⟨rfl, by omega⟩
    · rintro ⟨rfl, _⟩; rfl
theorem atomB_len (a : List UInt8) : a.length < (atomB a).length := by
  unfold atomB; simp; omega
mutual
theorem putT_iff : ∀ (t : T) (d : Nat) (b c : List UInt8), putT d b t = .ok c ↔ (okT d t = true ∧ c = b ++ catT t ∧ c.length ≤ 65536)
  | .mk lf a ks, d, b, c => by
    unfold putT okT catT
    cases lf
    · simp only [Bool.false_eq_true, ↓reduceIte]
      cases ha : a.isEmpty
      · simp
      · simp only [↓reduceIte]
        by_cases hd : 32 ≤ d
        · rw [if_pos hd]; simp; omega
        · rw [if_neg hd]
          have hd' : decide (d < 32) = true := by simp; omega
          rw [hd']
          cases h1 : roomB (b ++ [40]) with
          | error e =>
            have h2 := (roomB_err h1).2
            simp at h2 ⊢
            rintro _ rfl; simp; omega
          | ok b1 =>
            obtain ⟨rfl, h2⟩ := roomB_iff.1 h1
            dsimp only
            cases h3 : putsT (d + 1) (b ++ [40]) ks with
            | error e =>
              dsimp only
              constructor
              · intro h; cases h
              · rintro ⟨k1, rfl, k2⟩
                have := (putsT_iff ks (d + 1) (b ++ [40]) ((b ++ [40]) ++ catsT ks) h2).2 ⟨by simpa using k1, rfl, by simp at k2 ⊢; omega⟩
                rw [h3] at this; cases this
            | ok b2 =>
              obtain ⟨k1, rfl, k2⟩ := (putsT_iff ks (d + 1) (b ++ [40]) b2 h2).1 h3
              dsimp only
              rw [roomB_iff]
              simp [k1]
    · rw [if_pos rfl, if_pos rfl, if_pos rfl]
      cases hk : ks.isEmpty
      · simp
      · rw [if_pos rfl]
        have hl := atomB_len a
        by_cases ha : 65536 < a.length
        · rw [if_pos ha]; simp
          rintro rfl; simp; omega
        · rw [if_neg ha, roomB_iff]; simp
theorem putsT_iff : ∀ (ks : List T) (d : Nat) (b c : List UInt8), b.length ≤ 65536 → (putsT d b ks = .ok c ↔ (oksT d ks = true ∧ c = b ++ catsT ks ∧ c.length ≤ 65536))
  | [], d, b, c, hb => by
    unfold putsT oksT catsT
    simp; constructor
    · rintro rfl; exact ⟨rfl, hb⟩
    · rintro ⟨rfl, _⟩; rfl
  | k :: ks, d, b, c, hb => by
    unfold putsT oksT catsT
    cases h1 : putT d b k with
    | error e =>
      dsimp only
      constructor
      · intro h; cases h
      · rintro ⟨k1, rfl, k2⟩
        have := (putT_iff k d b (b ++ catT k)).2 ⟨by simp at k1; exact k1.1, rfl, by simp at k2 ⊢; omega⟩
        rw [h1] at this; cases this
    | ok b1 =>
      obtain ⟨k1, rfl, k2⟩ := (putT_iff k d b b1).1 h1
      dsimp only
      rw [putsT_iff ks d _ c k2]
      simp [k1]
end

/-! ### There and back -/
theorem takeWhile_all {l r : List UInt8} (h : ∀ c ∈ l, isDig c = true) (x : UInt8) (hx : isDig x = false) : (l ++ x :: r).takeWhile isDig = l := by
  induction l with
  | nil => simp [hx]
  | cons c l ih => simp [h c (by simp), ih (fun c hc => h c (by simp [hc]))]
theorem itoa_nat (n : Nat) : Lib.itoa (n : Int) = Lib.decDigits n := by unfold Lib.itoa; rw [if_neg (by omega)]; simp
theorem atomB_eq (a : List UInt8) : atomB a = Lib.decDigits a.length ++ 58 :: a := by unfold atomB; rw [itoa_nat]
theorem decDigits_len5 {n : Nat} (h : n < 100000) : (Lib.decDigits n).length ≤ 5 := by
  rw [Lib.decDigits_length]
  have key : ∀ k u : Nat, u < 10 ^ (k + 1) → Lib.nDigits u ≤ k + 1 := by
    intro k
    induction k with
    | zero => intro u hu; rw [Lib.nDigits_small (by simpa using hu)]; omega
    | succ k ih =>
      intro u hu
      by_cases hl : u < 10
      · rw [Lib.nDigits_small hl]; omega
      · rw [Lib.nDigits_big hl]
        have := ih (u / 10) (by rw [Nat.pow_succ] at hu; omega)
        omega
  exact key 4 n (by simpa using h)
theorem textT_atom (a r : List UInt8) (ha : a.length < 100000) : textT (atomB a ++ r) = .ok (.mk true a [], r) := by
  have e : (atomB a ++ r).takeWhile isDig = Lib.decDigits a.length := by
    rw [atomB_eq, List.append_assoc, List.cons_append]
    exact takeWhile_all (decDigits_dig _) 58 rfl
  unfold textT
  rw [e]
  have e2 : (atomB a ++ r).drop (Lib.decDigits a.length).length = 58 :: (a ++ r) := by
    rw [atomB_eq, List.append_assoc, List.drop_left]; rfl
  rw [e2]
  dsimp only
  have e3 : (atomB a ++ r).head? = (Lib.decDigits a.length).head? := by
    rw [atomB_eq]
    cases h : Lib.decDigits a.length with
    | nil => exact absurd h (decDigits_ne _)
    | cons c l => rfl
  rw [e3, decVal_decDigits, if_pos]
  · simp
  · refine ⟨rfl, decDigits_ne _, decDigits_len5 ha, ?_, by simp⟩
    by_cases h : a.length < 10
    · right; rw [decDigits_small h]; rfl
    · left; exact decDigits_head _ (by omega)
theorem atomB_head (a : List UInt8) : ∃ c r, atomB a = c :: r ∧ isDig c = true := by
  rw [atomB_eq]
  cases h : Lib.decDigits a.length with
  | nil => exact absurd h (decDigits_ne _)
  | cons c l => exact ⟨c, _, rfl, decDigits_dig _ c (by rw [h]; simp)⟩
theorem dig_ne40 {c : UInt8} (h : isDig c = true) : c ≠ 40 ∧ c ≠ 41 := by
  have := isDig_iff.1 h
  constructor <;> (rintro rfl; simp at this)
theorem takeT_text (d : Nat) (c : UInt8) (r : List UInt8) (h : c ≠ 40) : takeT d (c :: r) = textT (c :: r) := by
  cases d <;> (unfold takeT; rw [if_neg h])
theorem catT_ne (t : T) : ∃ c r, catT t = c :: r ∧ c ≠ 41 := by
  obtain ⟨lf, a, ks⟩ := t
  unfold catT
  cases lf
  · exact ⟨40, _, rfl, by decide⟩
  · obtain ⟨c, r, h1, h2⟩ := atomB_head a
    exact ⟨c, r, h1, (dig_ne40 h2).2⟩
mutual
theorem takeT_cat : ∀ (t : T) (d : Nat) (r : List UInt8), d ≤ 32 → okT d t = true → (catT t).length ≤ 65536 → takeT (32 - d) (catT t ++ r) = .ok (t, r)
  | .mk lf a ks, d, r, hd, ho, hl => by
    unfold okT at ho
    unfold catT at hl ⊢
    cases lf
    · rw [if_neg (by simp)] at ho hl ⊢
      simp only [Bool.and_eq_true, decide_eq_true_eq] at ho
      obtain ⟨⟨ha, hdl⟩, hk⟩ := ho
      have ha' : a = [] := by simpa using ha
      subst ha'
      obtain ⟨m, hm⟩ : ∃ m, 32 - d = m + 1 := ⟨31 - d, by omega⟩
      have hm2 : m = 32 - (d + 1) := by omega
      rw [hm, List.cons_append]
      unfold takeT
      rw [if_pos rfl, List.append_assoc, hm2, takesT_cat ks (d + 1) _ _ (by omega) hk (by simp at hl ⊢; omega) (by simp)]
    · rw [if_pos rfl] at ho hl ⊢
      obtain rfl : ks = [] := by simpa using ho
      have h1 := atomB_len a
      have h2 := textT_atom a r (by omega)
      obtain ⟨c, l, h3, h4⟩ := atomB_head a
      rw [h3] at h2 ⊢
      rw [List.cons_append] at h2 ⊢
      rw [takeT_text _ _ _ (dig_ne40 h4).1, h2]
theorem takesT_cat : ∀ (ks : List T) (d : Nat) (r : List UInt8) (n : Nat), d ≤ 32 → oksT d ks = true → (catsT ks).length ≤ 65536 → (catsT ks).length + 1 ≤ n → takesT (takeT (32 - d)) n (catsT ks ++ ([41] ++ r)) = .ok (ks, r)
  | [], d, r, n, hd, ho, hl, hn => by
    obtain ⟨m, rfl⟩ : ∃ m, n = m + 1 := ⟨n - 1, by omega⟩
    unfold catsT takesT
    rfl
  | k :: ks, d, r, n, hd, ho, hl, hn => by
    unfold oksT at ho
    simp only [Bool.and_eq_true] at ho
    unfold catsT at hl hn ⊢
    simp at hl hn
    obtain ⟨m, rfl⟩ : ∃ m, n = m + 1 := ⟨n - 1, by omega⟩
    have h1 := takeT_cat k d (catsT ks ++ ([41] ++ r)) hd ho.1 (by omega)
    obtain ⟨c, l, h3, h4⟩ := catT_ne k
    rw [h3] at h1 hn
    rw [h3, List.append_assoc]
    rw [List.cons_append] at h1 ⊢
    unfold takesT
    simp at hn
    rw [if_neg h4, h1]
    dsimp only
    rw [takesT_cat ks d r m hd ho.2 (by omega) (by omega)]
end
theorem textT_inv {s r : List UInt8} {t : T} (h : textT s = .ok (t, r)) : ∃ a, t = .mk true a [] ∧ s = atomB a ++ r := by
  unfold textT at h
  split at h
  · cases h
  · rename_i c l hdrop
    split at h
    · rename_i hc
      obtain ⟨rfl, h1, h2, h3, h4⟩ := hc
      have h5 := Except.ok.inj h
      obtain ⟨rfl, rfl⟩ := Prod.mk.inj h5
      refine ⟨_, rfl, ?_⟩
      have hdig : ∀ c ∈ s.takeWhile isDig, isDig c = true := by
        intro c hc
        have := List.all_takeWhile (p := isDig) (l := s)
        exact List.all_eq_true.1 this c hc
      have htake : s.take (s.takeWhile isDig).length = s.takeWhile isDig := by
        have := List.takeWhile_append_dropWhile (p := isDig) (l := s)
        have h2 := List.take_left (l₁ := s.takeWhile isDig) (l₂ := s.dropWhile isDig)
        rwa [this] at h2
      have hh : (s.takeWhile isDig).head? = s.head? := by
        cases s with
        | nil => rfl
        | cons c s =>
          rw [List.takeWhile_cons] at h1 ⊢
          split at h1
          · rename_i hx; rw [if_pos hx]; rfl
          · exact absurd rfl h1
      rw [← hh] at h3
      rw [atomB_eq, List.length_take, Nat.min_eq_left h4, decDigits_decVal hdig h1 h3]
      have := List.take_append_drop (s.takeWhile isDig).length s
      rw [hdrop, htake] at this
      rw [List.append_assoc, List.cons_append, List.take_append_drop]
      exact this.symm
    · cases h
theorem takesT_inv (d : Nat) (hd : d < 32) (ih : ∀ s t r, takeT (32 - (d + 1)) s = .ok (t, r) → okT (d + 1) t = true ∧ s = catT t ++ r) : ∀ (n : Nat) (s : List UInt8) (ts : List T) (r : List UInt8), takesT (takeT (32 - (d + 1))) n s = .ok (ts, r) → oksT (d + 1) ts = true ∧ s = catsT ts ++ 41 :: r
  | 0, [], ts, r, h => by cases h
  | n + 1, [], ts, r, h => by cases h
  | 0, c :: s, ts, r, h => by cases h
  | n + 1, c :: s, ts, r, h => by
    unfold takesT at h
    split at h
    · rename_i hc
      subst hc
      obtain ⟨rfl, rfl⟩ := Prod.mk.inj (Except.ok.inj h)
      exact ⟨by unfold oksT; rfl, by unfold catsT; rfl⟩
    · split at h
      · cases h
      · rename_i t r' h1
        obtain ⟨k1, k2⟩ := ih _ _ _ h1
        split at h
        · cases h
        · rename_i ts' r'' h2
          obtain ⟨rfl, rfl⟩ := Prod.mk.inj (Except.ok.inj h)
          obtain ⟨k3, k4⟩ := takesT_inv d hd ih n _ _ _ h2
          refine ⟨by unfold oksT; rw [k1, k3]; rfl, ?_⟩
          unfold catsT
          rw [k2, k4, List.append_assoc]
theorem takeT_inv : ∀ (m d : Nat), d + m = 32 → ∀ (s : List UInt8) (t : T) (r : List UInt8), takeT m s = .ok (t, r) → okT d t = true ∧ s = catT t ++ r
  | _, _, _, [], t, r, h => by unfold takeT at h; cases h
  | 0, d, hm, c :: s, t, r, h => by
    unfold takeT at h
    split at h
    · cases h
    · obtain ⟨a, rfl, h2⟩ := textT_inv h
      exact ⟨by unfold okT; rfl, by unfold catT; exact h2⟩
  | m + 1, d, hm, c :: s, t, r, h => by
    unfold takeT at h
    split at h
    · rename_i hc
      subst hc
      split at h
      · cases h
      · rename_i ts r' h1
        obtain ⟨rfl, rfl⟩ := Prod.mk.inj (Except.ok.inj h)
        have hm2 : m = 32 - (d + 1) := by omega
        rw [hm2] at h1
        obtain ⟨k1, k2⟩ := takesT_inv d (by omega) (by rw [← hm2]; exact takeT_inv m (d + 1) (by omega)) _ _ _ _ h1
        refine ⟨?_, ?_⟩
        · unfold okT; rw [if_neg (by simp), k1]; simp; omega
        · unfold catT; rw [if_neg (by simp), k2]; simp
    · obtain ⟨a, rfl, h2⟩ := textT_inv h
      exact ⟨by unfold okT; rfl, by unfold catT; exact h2⟩
theorem encT_iff (t : T) (b : List UInt8) : encT t = (b, 0) ↔ (okT 0 t = true ∧ b = catT t ∧ b.length ≤ 65536) := by
  unfold encT
  cases h : putT 0 [] t with
  | error e =>
    have he := putT_err t 0 [] e h
    constructor
    · intro h2
      have := (Prod.mk.inj h2).2
      omega
    · intro h2
      have := (putT_iff t 0 [] b).2 (by simpa using h2)
      rw [h] at this; cases this
  | ok c =>
    have := (putT_iff t 0 [] b)
    rw [h] at this
    simp at this ⊢
    exact this
theorem decT_iff (s : List UInt8) (t : T) : decT s = .ok t ↔ (okT 0 t = true ∧ s = catT t ∧ s.length ≤ 65536) := by
  unfold decT
  constructor
  · intro h
    split at h
    · cases h
    · rename_i hl
      split at h
      · cases h
      · rename_i t' h1
        obtain rfl := Except.ok.inj h
        obtain ⟨k1, k2⟩ := takeT_inv 32 0 rfl _ _ _ h1
        exact ⟨k1, by simpa using k2, by omega⟩
      · cases h
  · rintro ⟨h1, rfl, h2⟩
    rw [if_neg (by omega)]
    have := takeT_cat t 0 [] (by omega) h1 h2
    simp at this
    rw [this]
/-- What has bytes is read from them; what can be read is written as it was. -/
theorem dec_enc (t : T) (b : List UInt8) (h : encT t = (b, 0)) : decT b = .ok t := (decT_iff b t).2 (by have := (encT_iff t b).1 h; exact this)
theorem enc_dec (t : T) (b : List UInt8) (h : decT b = .ok t) : encT t = (b, 0) := (encT_iff t b).2 (by have := (decT_iff b t).1 h; exact this)
/-! ### No beginning -/
theorem takeWhile_full {l : List UInt8} (h : ∀ c ∈ l, isDig c = true) : l.takeWhile isDig = l := by
  induction l with
  | nil => rfl
  | cons c l ih => simp [h c (by simp), ih (fun c hc => h c (by simp [hc]))]
theorem textT_cut (a : List UInt8) (i : Nat) (h : i < (atomB a).length) : textT ((atomB a).take i) = .error 5 := by
  rw [atomB_eq] at h ⊢
  rw [List.take_append]
  by_cases hi : i ≤ (Lib.decDigits a.length).length
  · rw [show i - (Lib.decDigits a.length).length = 0 from by omega, List.take_zero, List.append_nil]
    have h1 := takeWhile_full (l := (Lib.decDigits a.length).take i) (fun c hc => decDigits_dig _ c (List.mem_of_mem_take hc))
    unfold textT
    rw [h1, List.drop_length]
  · obtain ⟨j, hj⟩ : ∃ j, i - (Lib.decDigits a.length).length = j + 1 := ⟨i - (Lib.decDigits a.length).length - 1, by omega⟩
    rw [hj, List.take_of_length_le (by omega), List.take_succ_cons]
    have hjl : j < a.length := by simp at h; omega
    have e := takeWhile_all (l := Lib.decDigits a.length) (r := a.take j) (decDigits_dig _) 58 rfl
    unfold textT
    rw [e, List.drop_left]
    dsimp only
    rw [if_neg]
    rintro ⟨_, _, _, _, h5⟩
    rw [decVal_decDigits, List.length_take] at h5
    omega
mutual
theorem takeT_cut : ∀ (t : T) (d : Nat) (i : Nat), d ≤ 32 → okT d t = true → (catT t).length ≤ 65536 → i < (catT t).length → takeT (32 - d) ((catT t).take i) = .error 5
  | .mk lf a ks, d, i, hd, ho, hl, hi => by
    unfold okT at ho
    unfold catT at hl hi ⊢
    cases i with
    | zero => rw [List.take_zero]; unfold takeT; rfl
    | succ i =>
      cases lf
      · rw [if_neg (by simp)] at ho hl hi ⊢
        simp only [Bool.and_eq_true, decide_eq_true_eq] at ho
        obtain ⟨⟨ha, hdl⟩, hk⟩ := ho
        obtain ⟨m, hm⟩ : ∃ m, 32 - d = m + 1 := ⟨31 - d, by omega⟩
        have hm2 : m = 32 - (d + 1) := by omega
        rw [hm, List.take_succ_cons]
        simp at hi hl
        unfold takeT
        rw [if_pos rfl, List.take_append, show i - (catsT ks).length = 0 from by omega, List.take_zero, List.append_nil, hm2, takesT_cut ks (d + 1) _ _ (by omega) hk (by omega) (by omega)]
      · rw [if_pos rfl] at ho hl hi ⊢
        have h2 := textT_cut a (i + 1) hi
        obtain ⟨c, l, h3, h4⟩ := atomB_head a
        rw [h3] at h2 ⊢
        rw [List.take_succ_cons] at h2 ⊢
        rw [takeT_text _ _ _ (dig_ne40 h4).1, h2]
theorem takesT_cut : ∀ (ks : List T) (d : Nat) (i n : Nat), d ≤ 32 → oksT d ks = true → (catsT ks).length ≤ 65536 → i ≤ (catsT ks).length → takesT (takeT (32 - d)) n ((catsT ks).take i) = .error 5
  | [], d, i, n, hd, ho, hl, hi => by
    unfold catsT
    rw [List.take_nil]
    unfold takesT; rfl
  | k :: ks, d, i, n, hd, ho, hl, hi => by
    unfold oksT at ho
    simp only [Bool.and_eq_true] at ho
    unfold catsT at hl hi ⊢
    simp at hl hi
    cases i with
    | zero => rw [List.take_zero]; unfold takesT; rfl
    | succ i =>
      obtain ⟨c, l, h3, h4⟩ := catT_ne k
      by_cases hlt : i + 1 < (catT k).length
      · have h1 := takeT_cut k d (i + 1) hd ho.1 (by omega) hlt
        rw [List.take_append, show i + 1 - (catT k).length = 0 from by omega, List.take_zero, List.append_nil]
        rw [h3, List.take_succ_cons] at h1 ⊢
        cases n with
        | zero => unfold takesT; rfl
        | succ n =>
          unfold takesT
          rw [if_neg h4, h1]
      · rw [List.take_append, List.take_of_length_le (by omega)]
        have h1 := takeT_cat k d ((catsT ks).take (i + 1 - (catT k).length)) hd ho.1 (by omega)
        rw [h3] at h1 ⊢
        rw [List.cons_append] at h1 ⊢
        cases n with
        | zero => unfold takesT; rfl
        | succ n =>
          unfold takesT
          rw [if_neg h4, h1]
          dsimp only
          rw [← h3, takesT_cut ks d _ n hd ho.2 (by omega) (by omega)]
end
theorem dec_cut (t : T) (b : List UInt8) (h : encT t = (b, 0)) (i : Nat) (hi : i < b.length) : decT (b.take i) = .error 5 := by
  obtain ⟨h1, rfl, h2⟩ := (encT_iff t b).1 h
  have := takeT_cut t 0 i (by omega) h1 h2 hi
  unfold decT
  rw [if_neg (by rw [List.length_take]; omega), this]
theorem dec_more (t : T) (b : List UInt8) (h : encT t = (b, 0)) (c : UInt8) (hb : b.length < 65536) : decT (b ++ [c]) = .error 5 := by
  obtain ⟨h1, rfl, h2⟩ := (encT_iff t b).1 h
  have := takeT_cat t 0 [c] (by omega) h1 h2
  unfold decT
  rw [if_neg (by simp; omega), this]
/-! ### Lists -/
mutual
theorem okT_less : ∀ (t : T) (d d' : Nat), d' ≤ d → okT d t = true → okT d' t = true
  | .mk lf a ks, d, d', hd, h => by
    unfold okT at h ⊢
    cases lf
    · simp only [Bool.false_eq_true, ↓reduceIte, Bool.and_eq_true, decide_eq_true_eq] at h ⊢
      exact ⟨⟨h.1.1, by omega⟩, oksT_less ks _ _ (by omega) h.2⟩
    · exact h
theorem oksT_less : ∀ (ks : List T) (d d' : Nat), d' ≤ d → oksT d ks = true → oksT d' ks = true
  | [], d, d', hd, h => rfl
  | k :: ks, d, d', hd, h => by
    unfold oksT at h ⊢
    simp only [Bool.and_eq_true] at h ⊢
    exact ⟨okT_less k _ _ hd h.1, oksT_less ks _ _ hd h.2⟩
end
theorem kids_ok {d : Nat} {ks : List T} (h : oksT d ks = true) {k : T} (hk : k ∈ ks) : okT d k = true ∧ (catT k).length ≤ (catsT ks).length := by
  induction ks with
  | nil => cases hk
  | cons x ks ih =>
    unfold oksT at h
    simp only [Bool.and_eq_true] at h
    unfold catsT
    rw [List.length_append]
    rcases List.mem_cons.1 hk with rfl | hk
    · exact ⟨h.1, by omega⟩
    · have := ih h.2 hk; exact ⟨this.1, by omega⟩
/-- The bytes of a list that has bytes: those of its kids, which have bytes. -/
theorem enc_list (ks : List T) (b : List UInt8) (h : encT (.mk false [] ks) = (b, 0)) : b = 40 :: (catsT ks ++ [41]) ∧ b.length ≤ 65536 ∧ ∀ k ∈ ks, encT k = (catT k, 0) := by
  obtain ⟨h1, rfl, h2⟩ := (encT_iff _ b).1 h
  have e1 : catT (.mk false [] ks) = 40 :: (catsT ks ++ [41]) := by unfold catT; simp
  have e2 : oksT 1 ks = true := by
    unfold okT at h1
    simp only [Bool.false_eq_true, ↓reduceIte, Bool.and_eq_true] at h1
    exact h1.2
  rw [e1] at h2 ⊢
  refine ⟨rfl, h2, fun k hk => (encT_iff k _).2 ⟨okT_less k 1 0 (by omega) (kids_ok e2 hk).1, rfl, ?_⟩⟩
  have := (kids_ok e2 hk).2
  simp at h2; omega
/-- The digits that are read: at most 6. -/
theorem digits_of (s : List UInt8) : ∃ j, j ≤ 6 ∧ j ≤ s.length ∧ (∀ (i : Nat), i < j → ∃ c, s[i]? = some c ∧ isDig c = true) ∧ (j = 6 ∨ j = s.length ∨ ∃ c, s[j]? = some c ∧ isDig c = false) := by
  have key : ∀ m : Nat, ∃ j, j ≤ m ∧ j ≤ s.length ∧ (∀ (i : Nat), i < j → ∃ c, s[i]? = some c ∧ isDig c = true) ∧ (j = m ∨ j = s.length ∨ ∃ c, s[j]? = some c ∧ isDig c = false) := by
    intro m
    induction m with
    | zero => exact ⟨0, Nat.le_refl _, Nat.zero_le _, fun i hi => by omega, .inl rfl⟩
    | succ m ih =>
      obtain ⟨j, h1, h2, h3, h4⟩ := ih
      rcases h4 with rfl | h4 | h4
      · by_cases hl : j < s.length
        · obtain ⟨c, hc⟩ : ∃ c, s[j]? = some c := ⟨_, List.getElem?_eq_getElem hl⟩
          cases hd : isDig c
          · exact ⟨j, by omega, h2, h3, .inr (.inr ⟨c, hc, hd⟩)⟩
          · refine ⟨j + 1, Nat.le_refl _, hl, fun i hi => ?_, .inl rfl⟩
            by_cases hij : i = j
            · subst hij; exact ⟨c, hc, hd⟩
            · exact h3 i (by omega)
        · exact ⟨j, by omega, h2, h3, .inr (.inl (by omega))⟩
      · exact ⟨j, by omega, h2, h3, .inr (.inl h4)⟩
      · exact ⟨j, by omega, h2, h3, .inr (.inr h4)⟩
  exact key 6
theorem take_get {s : List UInt8} {i : Nat} {c : UInt8} (h : s[i]? = some c) : s.take (i + 1) = s.take i ++ [c] := by
  obtain ⟨hi, rfl⟩ := List.getElem?_eq_some_iff.1 h
  rw [List.take_succ_eq_append_getElem hi]
theorem take_digs {s : List UInt8} {j : Nat} (h : ∀ (i : Nat), i < j → ∃ c, s[i]? = some c ∧ isDig c = true) : ∀ i, i ≤ j → ∀ c ∈ s.take i, isDig c = true := by
  intro i hi c hc
  obtain ⟨k, hk, rfl⟩ := List.mem_iff_getElem.1 hc
  rw [List.length_take] at hk
  obtain ⟨c', h1, h2⟩ := h k (by omega)
  rw [List.getElem_take]
  rw [List.getElem?_eq_getElem (by omega)] at h1
  rw [Option.some.inj h1]; exact h2
theorem decVal_take_lt {s : List UInt8} {i j : Nat} (hi : i ≤ j) (hj : j ≤ 6) (h : ∀ (i : Nat), i < j → ∃ c, s[i]? = some c ∧ isDig c = true) : decVal (s.take i) < 1000000 := by
  have h1 := decVal_lt (take_digs h i hi)
  have h2 : (s.take i).length ≤ 6 := by rw [List.length_take]; omega
  have h3 : 10 ^ (s.take i).length ≤ 10 ^ 6 := Nat.pow_le_pow_right (by decide) h2
  omega
/-! ### Digit by digit -/
theorem tw_ge {s : List UInt8} {j : Nat} (h : ∀ (i : Nat), i < j → ∃ c, s[i]? = some c ∧ isDig c = true) : j ≤ (s.takeWhile isDig).length := by
  induction s generalizing j with
  | nil =>
    cases j with
    | zero => exact Nat.zero_le _
    | succ j => obtain ⟨c, hc, _⟩ := h 0 (by omega); cases hc
  | cons x s ih =>
    cases j with
    | zero => exact Nat.zero_le _
    | succ j =>
      obtain ⟨c, hc, hd⟩ := h 0 (by omega)
      obtain rfl := Option.some.inj hc
      rw [List.takeWhile_cons, if_pos hd, List.length_cons]
      have := ih (j := j) (fun i hi => by have := h (i + 1) (by omega); simpa using this)
      omega
theorem tw_of {s : List UInt8} {j : Nat} (h : ∀ (i : Nat), i < j → ∃ c, s[i]? = some c ∧ isDig c = true) (hs : j = s.length ∨ ∃ c, s[j]? = some c ∧ isDig c = false) : s.takeWhile isDig = s.take j := by
  induction s generalizing j with
  | nil => simp
  | cons x s ih =>
    cases j with
    | zero =>
      rcases hs with hs | ⟨c, hc, hd⟩
      · cases hs
      · obtain rfl := Option.some.inj hc
        rw [List.takeWhile_cons, hd]; rfl
    | succ j =>
      obtain ⟨c, hc, hd⟩ := h 0 (by omega)
      obtain rfl := Option.some.inj hc
      rw [List.takeWhile_cons, if_pos hd, List.take_succ_cons, ih (j := j) (fun i hi => by have := h (i + 1) (by omega); simpa using this)]
      rcases hs with hs | ⟨c, hc, hd⟩
      · left; simpa using hs
      · right; exact ⟨c, by simpa using hc, hd⟩
theorem textT_err {s : List UInt8} (h : ∀ r, s.drop (s.takeWhile isDig).length = 58 :: r → s.takeWhile isDig ≠ [] → (s.takeWhile isDig).length ≤ 5 → (s.head? ≠ some 48 ∨ (s.takeWhile isDig).length = 1) → decVal (s.takeWhile isDig) ≤ r.length → False) : textT s = .error 5 := by
  unfold textT
  split
  · rfl
  · rename_i c r he
    split
    · rename_i hc
      obtain ⟨rfl, h1, h2, h3, h4⟩ := hc
      exact (h r he h1 h2 h3 h4).elim
    · rfl
theorem head_take {s : List UInt8} {j : Nat} (h : j ≠ 0) : (s.take j).head? = s.head? := by
  cases s with
  | nil => simp
  | cons c s => obtain ⟨k, rfl⟩ : ∃ k, j = k + 1 := ⟨j - 1, by omega⟩; rfl
theorem textT_bad {s : List UInt8} {j : Nat} (hj6 : j ≤ 6) (hjl : j ≤ s.length) (hd : ∀ (i : Nat), i < j → ∃ c, s[i]? = some c ∧ isDig c = true) (hs : j = 6 ∨ j = s.length ∨ ∃ c, s[j]? = some c ∧ isDig c = false)
    (h : j = 0 ∨ Lib.itoa ((decVal (s.take j) : Nat) : Int) ≠ s.take j ∨ j = s.length ∨ (∃ c, s[j]? = some c ∧ c ≠ 58) ∨ s.length - j - 1 < decVal (s.take j)) : textT s = .error 5 := by
  refine textT_err fun r h1 h2 h3 h4 h5 => ?_
  have hge := tw_ge hd
  have htw : s.takeWhile isDig = s.take j := tw_of hd (by rcases hs with hs | hs; exact absurd hs (by omega); exact hs)
  rw [htw] at h1 h2 h3 h4 h5
  rw [List.length_take, Nat.min_eq_left hjl] at h1 h3 h4
  have hj0 : j ≠ 0 := by rintro rfl; exact h2 (by simp)
  rcases h with h | h | h | ⟨c, hc, h⟩ | h
  · exact hj0 h
  · rw [itoa_nat] at h
    apply h
    apply decDigits_decVal (take_digs hd j (Nat.le_refl _)) h2
    rw [head_take hj0, List.length_take, Nat.min_eq_left hjl]; exact h4
  · rw [List.drop_of_length_le (by omega)] at h1; cases h1
  · have := List.drop_eq_getElem_cons (l := s) (i := j) (by obtain ⟨hi, _⟩ := List.getElem?_eq_some_iff.1 hc; exact hi)
    rw [this] at h1
    have h6 := (List.cons.inj h1).1
    obtain ⟨hi, h7⟩ := List.getElem?_eq_some_iff.1 hc
    exact h (h7.symm.trans h6)
  · have h6 := congrArg List.length h1
    rw [List.length_drop] at h6
    simp at h6
    omega
theorem textT_good {s : List UInt8} {j : Nat} (hj6 : j ≤ 6) (hlen : s.length ≤ 65536) (hd : ∀ (i : Nat), i < j → ∃ c, s[i]? = some c ∧ isDig c = true) (h0 : j ≠ 0) (h1 : Lib.itoa ((decVal (s.take j) : Nat) : Int) = s.take j) (h2 : s[j]? = some 58) (h3 : decVal (s.take j) ≤ s.length - j - 1) :
    textT s = .ok (.mk true ((s.drop (j + 1)).take (decVal (s.take j))) [], s.drop (j + 1 + decVal (s.take j))) := by
  have htw : s.takeWhile isDig = s.take j := tw_of hd (.inr ⟨58, h2, rfl⟩)
  obtain ⟨hi, hc⟩ := List.getElem?_eq_some_iff.1 h2
  have hlj : (s.take j).length = j := by rw [List.length_take]; omega
  rw [itoa_nat] at h1
  have hne : s.take j ≠ [] := by intro h; rw [h] at hlj; simp at hlj; omega
  have hj5 : j ≤ 5 := by
    by_cases hj : j = 6
    · exfalso
      have h4 : (Lib.decDigits (decVal (s.take j))).length ≤ 5 := decDigits_len5 (by omega)
      rw [h1] at h4
      omega
    · omega
  have h4 := (decDigits_iff (take_digs hd j (Nat.le_refl _)) hne).1 h1
  rw [head_take h0, hlj] at h4
  unfold textT
  rw [htw, hlj, List.drop_eq_getElem_cons hi]
  dsimp only
  rw [if_pos ⟨hc, hne, hj5, h4, by rw [List.length_drop]; omega⟩, List.drop_drop]
end Go.Proofs.YtjcimajkjnjdpabGreatDoor
