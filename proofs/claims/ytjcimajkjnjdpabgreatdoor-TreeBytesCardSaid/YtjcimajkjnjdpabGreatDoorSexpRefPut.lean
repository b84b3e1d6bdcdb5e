/- DERIVED. The reference's Put. -/
import Derived.Test.YtjcimajkjnjdpabGreatDoorSexpRefA
namespace Go.Proofs.YtjcimajkjnjdpabGreatDoor
open Go.RowKit
set_option linter.unusedVariables false

/-- What the reference's Put answers. -/
def PutTo (w : World) (v : Value) : Except Int (List UInt8) → Ending → World → Prop
  | .ok c, e, w' => ∃ v', e = .returned (.tuple #[v', .int .i64 0]) ∧ w'.ownsRow 0 5 1 v' c.length (bytesV c) ∧ Ch v.ownBlock.toList w w' ∧ ∀ g, v'.ownBlock = some g → v.ownBlock = some g ∨ w.heap.size ≤ g
  | .error f, e, w' => e = .returned (.tuple #[.slice none 0 0, .int .i64 f]) ∧ Ch v.ownBlock.toList w w'
/-- Where the reference's Put stands in a list: so many kids are still to come. -/
def PutSt (w1 : World) (S : List Nat) (Rk : Except Int (List UInt8)) (d : Nat) (ks : List T) (v : Value) (f : Int) (w : World) : Prop :=
  (f = 0 ∧ ∃ n l, n ≤ 65536 ∧ Buf w1 S w v n l ∧ Rk = putsT d l ks) ∨ (f ≠ 0 ∧ Ch S w1 w ∧ Rk = .error f)
theorem PutSt.ch {w1 : World} {S : List Nat} {Rk : Except Int (List UInt8)} {d : Nat} {ks : List T} {v : Value} {f : Int} {w : World} (h : PutSt w1 S Rk d ks v f w) : Ch S w1 w := by
  rcases h with ⟨_, _, _, _, h, _⟩ | ⟨_, h, _⟩
  · exact h.ch
  · exact h
theorem Buf.len {w1 w : World} {S : List Nat} {v : Value} {n : Nat} {l : List UInt8} (h : Buf w1 S w v n l) : n = l.length := by
  have := h.own.1; rw [bytesV_length] at this; omega
/-- One kid more. -/
theorem PutSt.step {w1 wr w' : World} {S : List Nat} {Rk : Except Int (List UInt8)} {d n k : Nat} {ks : List T} {v : Value} {l : List UInt8} {t : T} {e : Ending} (hB : Buf w1 S wr v n l) (hR : Rk = putsT d l (ks.drop k)) (ht : ks[k]? = some t) (h : PutTo wr v (putT d l t) e w') :
    ∃ v2 f2, e = .returned (.tuple #[v2, .int .i64 f2]) ∧ PutSt w1 S Rk d (ks.drop (k + 1)) v2 f2 w' := by
  have hfoot : ∀ g ∈ v.ownBlock.toList, g ∈ S ∨ w1.heap.size ≤ g := fun g hg => hB.foot g (by simpa using hg)
  rw [puts_drop ht] at hR
  cases hp : putT d l t with
  | error f =>
    rw [hp] at h hR
    obtain ⟨rfl, hch⟩ := h
    exact ⟨_, f, rfl, .inr ⟨by rcases putT_err t _ _ _ hp with rfl | rfl | rfl <;> decide, hB.ch.trans hch hfoot, hR⟩⟩
  | ok c =>
    rw [hp] at h hR
    obtain ⟨v2, rfl, ho, hch, hf⟩ := h
    refine ⟨v2, 0, rfl, .inl ⟨rfl, c.length, c, putT_len t _ _ _ hp, ⟨ho, fun g hg => ?_, hB.ch.trans hch hfoot⟩, hR⟩⟩
    rcases hf g hg with h | h
    · exact hB.foot g h
    · exact .inr (Nat.le_trans hB.ch.size h)
set_option maxRecDepth 100000 in
set_option maxHeartbeats 4000000 in
theorem rput_any : ∀ (m : Nat) (t : T), SizeOf.sizeOf t ≤ m → ∀ (w0 w : World) (v v0 v1 v2 : Value) (b : List UInt8) (d : Nat), NodeAt w0 t v0 v1 v2 → Tab w0 → Below w0.heap.size w0 w → (∀ g, v.ownBlock = some g → w0.heap.size ≤ g) → w.ownsRow 0 5 1 v b.length (bytesV b) → b.length ≤ 65536 → d ≤ 32 →
    Calls Tryz.prog 52 #[v, .agg #[v0, v1, v2], .int .i64 d] w (PutTo w v (putT d b t)) := by
  intro m
  induction m with
  | zero => intro t ht; exact absurd ht (by cases t; simp)
  | succ m ih =>
    intro t ht w0 w v v0 v1 v2 b d hn htab hb0 hfo hown hbl hd
    obtain ⟨lf, at_, ks⟩ := t
    obtain ⟨rfl, rfl, ha, hk, a, c, rfl, hc, hm, hkids⟩ := hn.open
    simp only [T.leaf, T.atom, T.kids] at ha hk hc hkids ⊢
    have hsub : ∀ k ∈ ks, SizeOf.sizeOf k ≤ m := fun k hk => by have := kid_size (l := lf) (a := at_) hk; omega
    unfold strV
    obtain ⟨S, hS⟩ : ∃ S : ByteArray, S = ⟨at_.toArray⟩ := ⟨_, rfl⟩
    have hSs : S.size = at_.length := by rw [hS, str_size]
    have hSe : S.toList.isEmpty = at_.isEmpty := by rw [Lib.toList_data, hS]
    rw [← hS]
    obtain ⟨n, hnn⟩ : ∃ n, n = ks.length := ⟨_, rfl⟩
    rw [← hnn] at hk hc ⊢
    obtain ⟨av, cv, rfl⟩ := owns_form hown
    obtain ⟨c0, c1, c2⟩ := box_cells w (.bool lf) (.string S) (.slice a n c)
    have hb1 : Below w.heap.size w (w.alloc (.cells #[.bool lf, .string S, .slice a n c] 50)) := (Below.refl _ w).alloc (Nat.le_refl _) _
    obtain ⟨w1, hw1⟩ : ∃ w1, w.alloc (.cells #[.bool lf, .string S, .slice a n c] 50) = w1 := ⟨_, rfl⟩
    rw [hw1] at hb1 c0 c1 c2
    have hown1 : w1.ownsRow 0 5 1 (.slice av b.length cv) b.length (bytesV b) := ownsRow_keep hown (fun g hg => hb1.block g (owns_lt hown g hg))
    obtain ⟨R, hR⟩ : ∃ R, R = putT d b (.mk lf at_ ks) := ⟨_, rfl⟩
    rw [← hR]
    unfold putT at hR
    have hbuf : Buf w1 (Value.slice av b.length cv).ownBlock.toList w1 (.slice av b.length cv) b.length b := Buf.start hown1
    have HFT : Hid (∀ g, (Value.slice av b.length cv).ownBlock = some g → g < w.heap.size) := Lib.hid (fun g hg => owns_lt hown g hg)
    have HSZ : Hid (w1.heap.size = w.heap.size + 1) := Lib.hid (by rw [← hw1]; simp)
    have hfault : ∀ e : Int, R = .error e → PutTo w (.slice av b.length cv) R (.returned (.tuple #[.slice none 0 0, .int .i64 e])) w1 := fun e he => by rw [he]; exact ⟨rfl, Ch.of_below hb1 _⟩
    have HF := Lib.hid hfault; have HB := Lib.hid hbuf; have HB1 := Lib.hid hb1; have HB0 := Lib.hid (hb0.trans (hb1.mono hb0.size))
    have HTAB := Lib.hid htab; have HFO := Lib.hid hfo; have HK := Lib.hid hkids; have HSUB := Lib.hid hsub; have HN := Lib.hid hnn
    clear hfault hbuf hown1 hb1 hb0 hfo hkids hsub hown hn htab ht
    cases lf
    · rw [if_neg (by simp)] at hR
      cases hae : at_.isEmpty
      · rw [hae, if_neg (by simp)] at hR
        rw [hae] at hSe
        have H := Lib.hid (HF.out 1 hR)
        clear hR hS hSs hae hnn
        go_enter Tryz.func52, Tryz.ntmps52
        go_wp2
        go_ret2
        exact H.out
      · rw [hae, if_pos rfl] at hR
        rw [hae] at hSe
        by_cases hd32 : 32 ≤ d
        · rw [if_pos hd32] at hR
          have hd' : d = 32 := by omega
          subst hd'
          have H := Lib.hid (HF.out 4 hR)
          clear hR hS hSs hae hnn
          go_enter Tryz.func52, Tryz.ntmps52
          go_wp2
          go_ret2
          exact H.out
        · rw [if_neg hd32] at hR
          have hcell : ∀ (W : World), Ch (Value.slice av b.length cv).ownBlock.toList w1 W → W.cell? ⟨w.heap.size, 2, none⟩ = some (.slice a n c) := by
            intro W hch
            rw [hch.cell (by show w.heap.size < w1.heap.size; rw [HSZ.out]; omega) (fun hm => by have := HFT.out w.heap.size (by simpa using hm); omega)]
            exact c2
          obtain ⟨i5, hi5, hz0, hz1, hz2⟩ := info_parts byteInfo
          have hend : ∀ (v' : Value) (n' : Nat) (l : List UInt8) (W : World), Buf w1 (Value.slice av b.length cv).ownBlock.toList W v' n' l → R = .ok l → PutTo w (.slice av b.length cv) R (.returned (.tuple #[v', .int .i64 0])) W := by
            intro v' n' l W hB hr
            rw [hr]
            refine ⟨v', rfl, ?_, (Ch.of_below HB1.out _).trans hB.ch (fun x hx => .inl hx), fun g hg => ?_⟩
            · have h1 := hB.own
              have : n' = l.length := by have := h1.1; rw [bytesV_length] at this; omega
              rw [← this]; exact h1
            · rcases hB.foot g hg with h | h
              · exact .inl (by simpa using h)
              · right; have := HSZ.out; omega
          have herr : ∀ (e : Int) (W : World), Ch (Value.slice av b.length cv).ownBlock.toList w1 W → R = .error e → PutTo w (.slice av b.length cv) R (.returned (.tuple #[.slice none 0 0, .int .i64 e])) W := by
            intro e W hch hr
            rw [hr]
            exact ⟨rfl, (Ch.of_below HB1.out _).trans hch (fun x hx => .inl hx)⟩
          have HCELL := Lib.hid hcell; have HEND := Lib.hid hend; have HERR := Lib.hid herr
          obtain ⟨Rk, hRk, hRR⟩ : ∃ Rk : Except Int (List UInt8), ((65536 < b.length + 1 ∧ Rk = .error 3) ∨ (b.length + 1 ≤ 65536 ∧ Rk = putsT (d + 1) (b ++ [40]) ks)) ∧ R = (match Rk with | .error e => .error e | .ok b2 => roomB (b2 ++ [41])) := by
            by_cases hbig : 65536 < (b ++ [40]).length
            · exact ⟨.error 3, .inl ⟨by simpa using hbig, rfl⟩, by rw [hR]; unfold roomB; rw [if_pos hbig]⟩
            · exact ⟨_, .inr ⟨by simp at hbig; omega, rfl⟩, by rw [hR, show roomB (b ++ [40]) = .ok (b ++ [40]) from by unfold roomB; rw [if_neg hbig]]; dsimp only; cases putsT (d + 1) (b ++ [40]) ks <;> rfl⟩
          have HRR := Lib.hid hRR; have HRK := Lib.hid hRk
          have hdl : d < 32 := by omega
          have hd2 : ((d : Int) == 32) = false := by simp; omega
          clear hcell hend herr hRR hRk hR hS hSs hae hnn hd32
          go_enter Tryz.func52, Tryz.ntmps52
          go_wp2_with (first | (at_builtin; refine wpList_append_srcs rfl (.tmp 43) (.tmp 44) 80 80 rfl 0 5 i5 (.int .u8 0) 1 1 Tryz.underlying80 hi5 hz0 hz1 hz2 rfl (by decide) _ rfl _ _ (HB.out.alloc _).own _ rfl _ _ (byte_src w1 40 0) (by unfold maxLen; omega) (by omega) (Nat.zero_le _) ?_; intro a2 c2' w2 hown hgrow _ hblk; have HB2 := Lib.hid ((HB.out.alloc _).app hown hgrow hblk); clear hown hgrow hblk) | fail)
          have hroom : Calls Tryz.prog 72 #[.slice a2 (b.length + 1) c2'] w2 (fun e w' => ∃ v' f, e = .returned (.tuple #[v', .int .i64 f]) ∧ PutSt w1 (Value.slice av b.length cv).ownBlock.toList Rk (d + 1) ks v' f w') := by
            refine (room_any w2 a2 (b.length + 1) c2').mono ?_
            rintro e w' ⟨rfl, rfl⟩
            rcases HRK.out with ⟨h1, h2⟩ | ⟨h1, h2⟩
            · rw [if_pos h1]; exact ⟨_, 3, rfl, .inr ⟨by decide, HB2.out.ch, h2⟩⟩
            · rw [if_neg (by omega)]; exact ⟨_, 0, rfl, .inl ⟨rfl, _, _, h1, HB2.out, h2⟩⟩
          have HROOM := Lib.hid hroom; clear hroom c0 c1 c2 hw1
          refine HROOM.out.mono ?_
          rintro e w3 ⟨v3, f3, rfl, hst3⟩
          have HST3 := Lib.hid hst3; clear hst3
          go_wp2_with fail
          go_loopw [0, 8, 9] (fun x y i wr => ∃ (k : Nat) (v' : Value) (f : Int), v' = x ∧ y = .int .i64 f ∧ i = .int .i64 k ∧ k ≤ n ∧ Hid (PutSt w1 (Value.slice av b.length cv).ownBlock.toList Rk (d + 1) (ks.drop k) v' f wr)) (fun _ _ i _ => n - (intOf i).toNat)
          case atStart => exact ⟨0, v3, f3, rfl, rfl, rfl, Nat.zero_le _, by rw [List.drop_zero]; exact HST3⟩
          case round =>
            obtain ⟨k, v', f, rfl, rfl, rfl, hk2, hst⟩ := hrel
            have d2 := HCELL.out wr hst.out.ch
            rcases hst.out with ⟨rfl, n', l, hn', hB', hRe⟩ | ⟨hf, hch, hRe⟩
            · have HB' := Lib.hid hB'; have HRE := Lib.hid hRe
              have hb0r : Below w0.heap.size w0 wr := HB0.out.trans (below_of_ch hB'.ch (fun g hg => HFO.out g (by simpa using hg)) HB0.out.size)
              by_cases hlt : k < n
              · obtain ⟨t, ht⟩ : ∃ t, ks[k]? = some t := ⟨_, List.getElem?_eq_getElem (by rw [← HN.out]; exact hlt)⟩
                obtain ⟨bb, o, u0, u1, u2, rfl, e0, e1, e2, hnt⟩ := HK.out k t ht
                replace e0 := below_keeps hb0r _ _ e0
                replace e1 := below_keeps hb0r _ _ e1
                replace e2 := below_keeps hb0r _ _ e2
                have hfo' : ∀ g, v'.ownBlock = some g → w0.heap.size ≤ g := by
                  intro g hg
                  rcases hB'.foot g hg with h | h
                  · exact HFO.out g (by simpa using h)
                  · exact Nat.le_trans HB0.out.size h
                have hlen := hB'.len
                have hG := ih t (HSUB.out t (List.mem_of_getElem? ht)) w0 wr v' u0 u1 u2 l (d + 1) hnt HTAB.out hb0r hfo' (by have := hB'.own; rw [hlen] at this; exact this) (by omega) (by omega)
                rw [show ((d + 1 : Nat) : Int) = (d : Int) + 1 from by omega] at hG
                have hG2 := hG.mono (fun e w' h => PutSt.step hB' hRe ht h)
                have HG := Lib.hid hG2
                clear hG hG2 hfo' hnt ht hb0r hlen hB' hRe
                go_wp2_with fail
                refine HG.out.mono ?_
                rintro e w4 ⟨v2, f2, rfl, q1⟩
                have Q1 := Lib.hid q1; clear q1
                go_wp2
                go_roundw
                case rel => exact ⟨k + 1, v2, f2, rfl, rfl, by go_num, hlt, Q1⟩
                case measure => simp [intOf]; omega
              · obtain rfl : k = n := by omega
                have hRk : Rk = .ok l := by
                  have := HRE.out
                  rw [List.drop_of_length_le (by rw [← HN.out]; exact Nat.le_refl _)] at this
                  unfold putsT at this; exact this
                have hR2 : R = roomB (l ++ [41]) := by rw [HRR.out, hRk]
                have HR2 := Lib.hid hR2
                obtain ⟨av', cv', rfl⟩ := owns_form hB'.own
                clear hRk hR2 hb0r hB' hRe
                go_wp2_with (first | (at_builtin; refine wpList_append_srcs rfl (.tmp 75) (.tmp 76) 80 80 rfl 0 5 i5 (.int .u8 0) 1 1 Tryz.underlying80 hi5 hz0 hz1 hz2 rfl (by decide) _ rfl _ _ (HB'.out.alloc _).own _ rfl _ _ (byte_src _ 41 0) (by unfold maxLen; omega) (by omega) (Nat.zero_le _) ?_; intro a5 c5 w5 hown hgrow _ hblk; have HB5 := Lib.hid ((HB'.out.alloc _).app hown hgrow hblk); clear hown hgrow hblk) | fail)
                have hn5 := HB5.out.len
                by_cases hbig : 65536 < n' + 1
                · have hroom := room_any w5 a5 (n' + 1) c5
                  rw [if_pos hbig] at hroom
                  have hfin := HERR.out 3 w5 HB5.out.ch (by rw [HR2.out]; unfold roomB; rw [if_pos (by omega)])
                  have HR := Lib.hid hroom; have HFIN := Lib.hid hfin
                  clear hroom hfin hn5
                  refine HR.out.mono ?_
                  rintro e w6 ⟨rfl, rfl⟩
                  go_wp2
                  go_ret2
                  exact HFIN.out
                · have hroom := room_any w5 a5 (n' + 1) c5
                  rw [if_neg hbig] at hroom
                  have hfin := HEND.out _ _ _ w5 HB5.out (by rw [HR2.out]; unfold roomB; rw [if_neg (by omega)])
                  have HR := Lib.hid hroom; have HFIN := Lib.hid hfin
                  clear hroom hfin hn5
                  refine HR.out.mono ?_
                  rintro e w6 ⟨rfl, rfl⟩
                  go_wp2
                  go_ret2
                  exact HFIN.out
            · have hR2 : R = .error f := by rw [HRR.out, hRe]
              have hfin := HERR.out f wr hch hR2
              have HFIN := Lib.hid hfin
              have hf1 : (f == 0) = false := by simpa using hf
              have hf2 : (f != 0) = true := by simpa using hf
              clear hR2 hfin hch hRe
              by_cases hlt : k < n
              · go_wp2
                go_ret2
                exact HFIN.out
              · go_wp2
                go_ret2
                exact HFIN.out
    · rw [if_pos rfl] at hR
      cases hke : ks.isEmpty
      · rw [hke, if_neg (by simp)] at hR
        have H := Lib.hid (HF.out 1 hR)
        have hn0 : 0 < n := by rw [hnn]; cases ks with | nil => cases hke | cons k ks => simp
        clear hR hS hSs hke hnn
        go_enter Tryz.func52, Tryz.ntmps52
        go_wp2
        go_ret2
        exact H.out
      · rw [hke, if_pos rfl] at hR
        have hn0 : n = 0 := by rw [hnn]; cases ks with | nil => rfl | cons k ks => cases hke
        by_cases hal : 65536 < at_.length
        · rw [if_pos hal] at hR
          have H := Lib.hid (HF.out 3 hR)
          have hSl : 65536 < S.size := by omega
          clear hR hS hSs hke hnn
          subst hn0
          go_enter Tryz.func52, Tryz.ntmps52
          go_wp2
          go_ret2
          exact H.out
        · rw [if_neg hal] at hR
          subst hn0
          have hSl : S.size ≤ 65536 := by omega
          have hit := itoa_any S.size w1 (by omega) (HTAB.out.below HB0.out)
          obtain ⟨I, hI⟩ : ∃ I : List UInt8, I = Lib.itoa S.size := ⟨_, rfl⟩
          have hIs : I.length ≤ 21 := by rw [hI]; exact Lib.itoa_length_le _ (by omega) (by omega)
          unfold strV at hit
          rw [← hI] at hit
          obtain ⟨i5, hi5, hz0, hz1, hz2⟩ := info_parts byteInfo
          have hat : b ++ I ++ [58] ++ at_ = b ++ atomB at_ := by unfold atomB; rw [hI, hSs]; simp
          have hcell : ∀ (W : World), Ch (Value.slice av b.length cv).ownBlock.toList w1 W → W.cell? ⟨w.heap.size, 1, none⟩ = some (.string S) := by
            intro W hch
            rw [hch.cell (by show w.heap.size < w1.heap.size; rw [HSZ.out]; omega) (fun hm => by have := HFT.out w.heap.size (by simpa using hm); omega)]
            exact c1
          have hsrc : ∀ W, Src Tryz.prog 1 9 (.string S) S.size (bytesV at_) W := fun W => by rw [hS, str_size]; exact str_src W at_
          have hend : ∀ (v' : Value) (n' : Nat) (W : World), n' ≤ 65536 → Buf w1 (Value.slice av b.length cv).ownBlock.toList W v' n' (b ++ I ++ [58] ++ at_) → PutTo w (.slice av b.length cv) R (.returned (.tuple #[v', .int .i64 0])) W := by
            intro v' n' W hle hB
            have h1 := hB.own
            rw [hat] at h1
            have hn : n' = (b ++ atomB at_).length := by have := h1.1; rw [bytesV_length] at this; omega
            rw [hR, show roomB (b ++ atomB at_) = .ok (b ++ atomB at_) from by unfold roomB; rw [if_neg (by omega)]]
            refine ⟨v', rfl, by rw [← hn]; exact h1, (Ch.of_below HB1.out _).trans hB.ch (fun x hx => .inl hx), fun g hg => ?_⟩
            rcases hB.foot g hg with h | h
            · exact .inl (by simpa using h)
            · right; have := HSZ.out; omega
          have herr : ∀ (v' : Value) (n' : Nat) (W : World), 65536 < n' → Buf w1 (Value.slice av b.length cv).ownBlock.toList W v' n' (b ++ I ++ [58] ++ at_) → PutTo w (.slice av b.length cv) R (.returned (.tuple #[.slice none 0 0, .int .i64 3])) W := by
            intro v' n' W hle hB
            have h1 := hB.own
            rw [hat] at h1
            have hn : n' = (b ++ atomB at_).length := by have := h1.1; rw [bytesV_length] at this; omega
            rw [hR, show roomB (b ++ atomB at_) = .error 3 from by unfold roomB; rw [if_pos (by omega)]]
            exact ⟨rfl, (Ch.of_below HB1.out _).trans hB.ch (fun x hx => .inl hx)⟩
          have HIT := Lib.hid hit; have HSS := Lib.hid hSs
          have HCELL := Lib.hid hcell; have HEND := Lib.hid hend; have HERR := Lib.hid herr; have HSRC := Lib.hid hsrc
          clear hit hR hI hSs hS hke hnn hcell hend herr hsrc hat
          go_enter Tryz.func52, Tryz.ntmps52
          go_wp2_with fail
          refine HIT.out.mono ?_
          rintro e w2 ⟨rfl, hb2⟩
          have HB2 := Lib.hid (HB.out.below hb2)
          clear hb2 c1
          have y1 := HCELL.out w2 HB2.out.ch
          go_wp2_with (first | (at_builtin; refine wpList_append_srcs rfl (.tmp 20) (.tmp 24) 80 9 rfl 0 5 i5 (.int .u8 0) 1 1 Tryz.underlying80 hi5 hz0 hz1 hz2 rfl (by decide) _ rfl _ _ HB2.out.own _ rfl _ _ (str_src w2 I) (by unfold maxLen; omega) (by omega) (Nat.zero_le _) ?_; intro a3 c3 w3 hown hgrow _ hblk; have HB3 := Lib.hid (HB2.out.app hown hgrow hblk); clear hown hgrow hblk; have y2 := HCELL.out w3 HB3.out.ch) | (at_builtin; refine wpList_append_srcs rfl (.tmp 26) (.tmp 27) 80 80 rfl 0 5 i5 (.int .u8 0) 1 1 Tryz.underlying80 hi5 hz0 hz1 hz2 rfl (by decide) _ rfl _ _ (HB3.out.alloc _).own _ rfl _ _ (byte_src _ 58 0) (by unfold maxLen; omega) (by omega) (Nat.zero_le _) ?_; intro a4 c4 w4 hown hgrow _ hblk; have HB4 := Lib.hid ((HB3.out.alloc _).app hown hgrow hblk); clear hown hgrow hblk; have y3 := HCELL.out w4 HB4.out.ch) | (at_builtin; refine wpList_append_srcs rfl (.tmp 29) (.tmp 31) 80 9 rfl 0 5 i5 (.int .u8 0) 1 1 Tryz.underlying80 hi5 hz0 hz1 hz2 rfl (by decide) _ rfl _ _ HB4.out.own _ rfl _ _ (HSRC.out _) (by unfold maxLen; omega) (by omega) (Nat.zero_le _) ?_; intro a5 c5 w5 hown hgrow _ hblk; have HB5 := Lib.hid (HB4.out.app hown hgrow hblk); clear hown hgrow hblk) | fail)
          by_cases hbig : 65536 < b.length + I.length + 1 + S.size
          · have hroom := room_any w5 a5 (b.length + I.length + 1 + S.size) c5
            rw [if_pos hbig] at hroom
            have HR := Lib.hid hroom; have HFIN := Lib.hid (HERR.out _ _ w5 hbig HB5.out)
            clear hroom
            refine HR.out.mono ?_
            rintro e w6 ⟨rfl, rfl⟩
            go_wp2
            go_ret2
            exact HFIN.out
          · have hroom := room_any w5 a5 (b.length + I.length + 1 + S.size) c5
            rw [if_neg hbig] at hroom
            have HR := Lib.hid hroom; have HFIN := Lib.hid (HEND.out _ _ w5 (by omega) HB5.out)
            clear hroom
            refine HR.out.mono ?_
            rintro e w6 ⟨rfl, rfl⟩
            go_wp2
            go_ret2
            exact HFIN.out
/-- The reference's Encode. -/
theorem renc_any (t : T) (w : World) (v0 v1 v2 : Value) (hn : NodeAt w t v0 v1 v2) (htab : Tab w) :
    Calls Tryz.prog 24 #[.agg #[v0, v1, v2]] w (fun e w' => e = .returned (.tuple #[strV (encT t).1, .int .i64 (encT t).2]) ∧ Below w.heap.size w w') := by
  obtain ⟨c0, c1, c2⟩ := box_cells w v0 v1 v2
  have hb1 : Below w.heap.size w (w.alloc (.cells #[v0, v1, v2] 50)) := (Below.refl _ w).alloc (Nat.le_refl _) _
  obtain ⟨w1, hw1⟩ : ∃ w1, w.alloc (.cells #[v0, v1, v2] 50) = w1 := ⟨_, rfl⟩
  rw [hw1] at hb1 c0 c1 c2
  have hP := rput_any (SizeOf.sizeOf t) t (Nat.le_refl _) w w1 (.slice none 0 0) v0 v1 v2 [] 0 hn htab hb1 (by intro g hg; cases hg) (World.ownsRow_nil _ _ _ _) (Nat.zero_le _) (by omega)
  have hP2 : Calls Tryz.prog 52 #[.slice none 0 0, .agg #[v0, v1, v2], .int .i64 0] w1 (fun e w' => ∃ a n c, e = .returned (.tuple #[.slice a n c, .int .i64 (encT t).2]) ∧ Rd w' (.slice a n c) (bytesV (encT t).1) ∧ Below w.heap.size w w') := by
    refine hP.mono ?_
    intro e w' h
    unfold encT
    cases hp : putT 0 [] t with
    | error f =>
      rw [hp] at h
      obtain ⟨rfl, hch⟩ := h
      exact ⟨_, _, _, rfl, Rd.nil _, hb1.trans (below_of_ch hch (by intro k hk; cases hk) hb1.size)⟩
    | ok c =>
      rw [hp] at h
      obtain ⟨v', rfl, ho, hch, hf⟩ := h
      obtain ⟨a, c', rfl⟩ := owns_form ho
      exact ⟨_, _, _, rfl, Rd.of_owns ho, hb1.trans (below_of_ch hch (by intro k hk; cases hk) hb1.size)⟩
  obtain ⟨q, hq⟩ : ∃ q, q = encT t := ⟨_, rfl⟩
  rw [← hq] at hP2 ⊢
  have HP := Lib.hid hP2
  clear hP hP2 hq hn htab hb1
  go_enter Tryz.func24, Tryz.ntmps24
  go_wp2_with fail
  refine HP.out.mono ?_
  rintro e w2 ⟨a, n, c, rfl, hrd, hb⟩
  have hcv := conv_rd (P := Tryz.prog) Tryz.underlying80 Tryz.underlying5 Tryz.underlying9 hrd
  have HB := Lib.hid hb; clear hrd hb
  go_wp2
  go_ret2
  exact ⟨rfl, HB.out⟩
end Go.Proofs.YtjcimajkjnjdpabGreatDoor
