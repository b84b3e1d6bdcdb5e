/- DERIVED. The walks of the laws' own helpers: alive, great. -/
import Derived.Test.YtipindjchcmckaaCasB
namespace Go.Proofs.Ytipindjchcmckaa
open Go.RowKit
set_option linter.unusedVariables false

/-- A store of the call's own: nothing below block B has changed since w0. -/
def CasOwn (B : Nat) (w0 : World) (P : Nat) (wd : Int) (ps : List Pr) (w : World) : Prop :=
  ∃ S v, StAt w P S v wd ps ∧ (∀ k ∈ stFoot P S v, B ≤ k) ∧ Below B w0 w ∧ B ≤ w.heap.size
theorem StTo.own {B : Nat} {w0 w w' : World} {P S : Nat} {v : Value} {wd : Int} {ps : List Pr} (hf : ∀ k ∈ stFoot P S v, B ≤ k) (hb : Below B w0 w) (hB : B ≤ w.heap.size) (h : StTo w P S v wd ps w') : CasOwn B w0 P wd ps w' := by
  obtain ⟨v', h1, h2, h3⟩ := h
  exact ⟨S, v', h1, fun k hk => (h3 k hk).elim (hf k) (fun h => Nat.le_trans hB h), hb.trans (below_of_ch h2 hf hB), Nat.le_trans hB h2.size⟩
theorem cas_new (w : World) (B : Nat) (w0 : World) (hb : Below B w0 w) (hB : B ≤ w.heap.size) (wd : Int) :
    Calls Try.prog 9 #[.int .i64 wd] w fun e w' => ∃ P, e = .returned (.pointer (some ⟨P, 0, none⟩)) ∧ CasOwn B w0 P wd [] w' := by
  refine (cnew_any w wd).mono ?_
  rintro e w' ⟨rfl, rfl⟩
  refine ⟨_, rfl, _, _, st_new w wd, ?_, hb.trans ((((Below.refl _ w).alloc (Nat.le_refl _) _).alloc (by simp) _).mono hB), by simp; omega⟩
  intro k hk
  simp [stFoot, shFoot, Value.ownBlock] at hk
  omega
theorem cas_put {B : Nat} {w0 w : World} {P : Nat} {wd : Int} {ps : List Pr} (h : CasOwn B w0 P wd ps w) (hl : ps.length ≤ 999999) (b : List UInt8) (hb : b.length ≤ 140737488351232) :
    Calls Try.prog 11 #[.pointer (some ⟨P, 0, none⟩), strV b] w fun e w' => ∃ key err ps', e = .returned (.tuple #[strV key, .int .i64 err]) ∧ CputRel wd ps b key err ps' ∧ CasOwn B w0 P wd ps' w' := by
  obtain ⟨S, v, h1, h2, h3, h4⟩ := h
  refine (cput_any w P S v wd ps h1 hl b hb).mono ?_
  rintro e w' ⟨key, err, ps', rfl, hr, ht⟩
  exact ⟨key, err, ps', rfl, hr, ht.own h2 h3 h4⟩
theorem CasOwn.below {B : Nat} {w0 w w' : World} {P : Nat} {wd : Int} {ps : List Pr} (h : CasOwn B w0 P wd ps w) (hb : Below w.heap.size w w') : CasOwn B w0 P wd ps w' := by
  obtain ⟨S, v, h1, h2, h3, h4⟩ := h
  exact ⟨S, v, h1.below hb, h2, h3.trans (hb.mono h4), Nat.le_trans h4 hb.size⟩
theorem cas_len {B : Nat} {w0 w : World} {P : Nat} {wd : Int} {ps : List Pr} (h : CasOwn B w0 P wd ps w) :
    Calls Try.prog 15 #[.pointer (some ⟨P, 0, none⟩)] w fun e w' => e = .returned (.int .i64 ps.length) ∧ w = w' := by
  obtain ⟨S, v, h1, h2, h3, h4⟩ := h
  exact clen_any w P S v wd ps h1
theorem CasOwn.bel {B : Nat} {w0 w : World} {P : Nat} {wd : Int} {ps : List Pr} (h : CasOwn B w0 P wd ps w) : Below B w0 w := by
  obtain ⟨S, v, h1, h2, h3, h4⟩ := h
  exact h3
theorem key_a : casKey 0 [97] = [97, 97, 97, 97, 97, 97, 97, 97, 97, 97, 97, 97, 97] := by decide +kernel
theorem key_b : casKey 0 [98] = [97, 97, 97, 97, 97, 97, 97, 97, 97, 97, 97, 97, 97] := by decide +kernel
theorem put_one {key : List UInt8} {err : Int} {ps' : List Pr} (h : CputRel 0 [] [97] key err ps') : err = 0 ∧ key = [97, 97, 97, 97, 97, 97, 97, 97, 97, 97, 97, 97, 97] ∧ ps'.length = 1 ∧ ∀ p, p ∈ ps' ↔ p = ([97, 97, 97, 97, 97, 97, 97, 97, 97, 97, 97, 97, 97], [97]) := by
  rcases h with ⟨_, h, _⟩ | ⟨_, _, ⟨_, h, _⟩, _⟩ | ⟨h1, _, h3, h4, h5⟩
  · simp at h
  · cases h
  · rw [key_a] at h3 h4 h5
    refine ⟨h1, h3, ?_, fun p => by rw [h4]; simp⟩
    rcases h5 with ⟨h, _⟩ | ⟨_, h⟩
    · cases h
    · exact h
theorem put_two {key : List UInt8} {err : Int} {ps ps' : List Pr} (hp : ∀ p, p ∈ ps ↔ p = ([97, 97, 97, 97, 97, 97, 97, 97, 97, 97, 97, 97, 97], [97])) (h : CputRel 0 ps [97] key err ps') : err = 0 ∧ key = [97, 97, 97, 97, 97, 97, 97, 97, 97, 97, 97, 97, 97] ∧ ps' = ps := by
  rcases h with ⟨_, h, _⟩ | ⟨_, _, ⟨old, h, h'⟩, _⟩ | ⟨h1, _, h3, h4, h5⟩
  · simp at h
  · rw [hp] at h
    exact absurd (Prod.mk.inj h).2 h'
  · rw [key_a] at h3 h4 h5
    refine ⟨h1, h3, ?_⟩
    rcases h5 with ⟨_, h⟩ | ⟨h, _⟩
    · exact h
    · exact absurd ((hp _).2 rfl) (h _)
theorem put_three {key : List UInt8} {err : Int} {ps ps' : List Pr} (hp : ∀ p, p ∈ ps ↔ p = ([97, 97, 97, 97, 97, 97, 97, 97, 97, 97, 97, 97, 97], [97])) (h : CputRel 0 ps [98] key err ps') : err = 72 ∧ key = [] ∧ ps' = ps := by
  rcases h with ⟨_, h, _⟩ | ⟨h1, _, _, h2, h3⟩ | ⟨h1, _, h3, h4, h5⟩
  · simp at h
  · exact ⟨h1, h2, h3⟩
  · rw [key_b] at h3 h4 h5
    rcases h5 with ⟨h, _⟩ | ⟨h, _⟩
    · rw [hp] at h
      have := (Prod.mk.inj h).2
      simp at this
    · exact absurd ((hp _).2 rfl) (h _)
set_option maxRecDepth 100000 in
set_option maxHeartbeats 1000000 in
theorem calive_any (w : World) : Calls Try.prog 7 #[] w fun e w' => e = .returned (.bool true) ∧ Below w.heap.size w w' := by
  have hfn : ∀ a (w : World), (binOp BinOp.eql 40 (Value.func (Fn.func 43) #[] #[.pointer (some a)]) Value.nilFunc).run Try.prog w = .ok (.bool false) w := fun _ _ => by kernel_rfl
  go_enter Try.func7, Try.ntmps7
  go_wp2_with fail
  refine (call_nil _).mono ?_
  rintro e w1 ⟨rfl, hw1⟩
  have hb1 : Below w.heap.size w w1 := by rw [hw1]; exact (Below.refl _ w).alloc (Nat.le_refl _) _
  have HB1 := Lib.hid hb1; clear hb1 hw1
  go_wp2_with fail
  refine (cas_new w1 w.heap.size w HB1.out HB1.out.size 0).mono ?_
  rintro e w2 ⟨P, rfl, o2⟩
  have O2 := Lib.hid o2; clear o2
  go_wp2_with fail
  refine (cas_put O2.out (by simp) [97] (by simp)).mono ?_
  rintro e w3 ⟨key, err, ps1, rfl, hr, o3⟩
  obtain ⟨rfl, rfl, hl, hp⟩ := put_one hr
  have O3 := Lib.hid o3; have HP := Lib.hid hp; have HL := Lib.hid hl; clear o3 hp hr
  have hl1 : ps1.length ≤ 1 := by omega
  clear hl
  go_wp2_with fail
  refine (cas_put O3.out (by omega) [97] (by simp)).mono ?_
  rintro e w4 ⟨key, err, ps2, rfl, hr, o4⟩
  obtain ⟨rfl, rfl, rfl⟩ := put_two HP.out hr
  have O4 := Lib.hid o4; clear o4 hr
  go_wp2_with fail
  refine (cas_put O4.out (by omega) [98] (by simp)).mono ?_
  rintro e w5 ⟨key, err, ps3, rfl, hr, o5⟩
  obtain ⟨rfl, rfl, rfl⟩ := put_three HP.out hr
  have O5 := Lib.hid o5; clear o5 hr
  have hlen := cas_len O5.out
  rw [HL.out] at hlen
  have HLEN := Lib.hid hlen; clear hlen
  unfold strV
  go_wp2_with fail
  refine HLEN.out.mono ?_
  rintro e w' ⟨rfl, rfl⟩
  go_wp2_with fail
  go_ret
  exact ⟨rfl, O5.out.bel⟩
/-- Not more than is played. -/
def Small (ls : List (List UInt8)) : Prop := ls.length ≤ 60 ∧ ∀ r ∈ ls, r.length ≤ 262144
def GreatTo (ls : List (List UInt8)) (w : World) (e : Ending) (w' : World) : Prop := ∃ g, e = .returned (.bool g) ∧ (g = false → Small ls) ∧ w = w'
set_option maxHeartbeats 1000000 in
theorem cgreat_any (w : World) (a : Option Addr) (c : Nat) (ls : List (List UInt8)) (ha : RdStrs w a ls) (hl : ls.length ≤ 140737488351232) (hr : ∀ r ∈ ls, r.length ≤ 140737488351232) :
    Calls Try.prog 8 #[.slice a ls.length c] w (GreatTo ls w) := by
  have HA := Lib.hid ha; have HR := Lib.hid hr; clear ha hr
  go_enter Try.func8, Try.ntmps8
  go_wp2_with fail
  go_loop [3, 8] (fun x i => ∃ (k N : Nat), k ≤ ls.length ∧ i = .int .i64 k ∧ x = .int .i64 N ∧ N ≤ 262144 ∧ Hid (∀ r ∈ ls.take k, r.length ≤ 262144)) (fun _ i => ls.length - (intOf i).toNat)
  case atStart => exact ⟨0, 0, Nat.zero_le _, rfl, rfl, Nat.zero_le _, by intro r hr; simp at hr⟩
  case round =>
    obtain ⟨k, N, hk, rfl, rfl, hN, hP⟩ := hrel
    by_cases hlt : k < ls.length
    · obtain ⟨b, o, rfl, hc⟩ := HA.out (by intro e; rw [e] at hlt; exact absurd hlt (Nat.not_lt_zero _))
      obtain ⟨l, hl'⟩ : ∃ l, ls[k]? = some l := ⟨_, List.getElem?_eq_getElem hlt⟩
      have h1 := hc k l hl'
      have hll := HR.out l (List.mem_of_getElem? hl')
      have hsz := str_size l
      have HL := Lib.hid hl'
      clear hc hl'
      by_cases hbig : 262144 < N + l.length
      · go_wp2
        go_ret
        exact ⟨true, rfl, (fun h => by cases h), rfl⟩
      · go_wp2
        go_round
        case rel =>
          refine ⟨k + 1, N + l.length, by omega, by go_num, by go_num, by omega, ?_⟩
          intro r hr
          rw [List.take_add_one, HL.out] at hr
          rcases List.mem_append.1 hr with h | h
          · exact hP.out r h
          · obtain rfl : r = l := by simpa using h
            omega
        case measure => simp [intOf]; omega
    · obtain rfl : k = ls.length := by omega
      go_wp2
      go_ret
      refine ⟨_, rfl, fun h => ⟨?_, ?_⟩, rfl⟩
      · have := of_decide_eq_false h
        omega
      · have := hP.out
        rwa [List.take_length] at this
end Go.Proofs.Ytipindjchcmckaa
