/- DERIVED. The reference's search, walked: by induction on the depth that is looked at. (Printed by a program.) -/
import Derived.Test.YtaagkndhgicifaaGreatSv13
namespace Go.Proofs.YtaagkndhgicifaaGreat
open Go.RowKit
set_option linter.unusedVariables false
set_option linter.unusedSimpArgs false
set_option maxRecDepth 100000
def MeetP (left : Int) (w : World) (res : Res × Nat) (e : Ending) (w' : World) : Prop := Below w.heap.size w w' ∧ match res.1 with
 | .ok c => ∃ vc, e = .returned (.tuple #[vc, .int .i64 (left - res.2), .int .i64 0]) ∧ PkgsAt zAll w' vc c
 | .clash => e = .returned (.tuple #[.slice none 0 0, .int .i64 (left - res.2), .int .i64 12])
 | .budget => e = .returned (.tuple #[.slice none 0 0, .int .i64 (left - res.2), .int .i64 60])
theorem MeetP.back {left : Int} {w w2 w' : World} {res : Res × Nat} {e : Ending} (hb : Below w.heap.size w w2) (h : MeetP left w2 res e w') : MeetP left w res e w' := ⟨hb.trans (h.1.mono hb.size), h.2⟩
theorem DepsAt.rest {Z : Zone} {w : World} {b o c n : Nat} {d : Dp} {ds : List Dp} (hn : n = ds.length) (h : DepsAt Z w (.slice (some ⟨b, o, none⟩) (n + 1) c) (d :: ds)) : DepsAt Z w (.slice (some ⟨b, o + 2, none⟩) n (c - 1)) ds := by
 obtain ⟨a, c', e, hb, hc⟩ := h
 obtain ⟨rfl, -, rfl⟩ := Value.slice.inj e
 obtain ⟨b', o', e2, hz, hl, hcs⟩ := hc (by simp)
 obtain ⟨rfl, rfl⟩ : b = b' ∧ o = o' := by simpa using e2
 have h1 := hb.le
 have h2 := hb.max
 have h3 := hb.cap
 simp only [List.length_cons] at h1 h2
 refine ⟨_, _, by rw [hn], ⟨by omega, by omega, by omega, fun e => by cases e⟩, fun _ => ⟨b, o + 2, rfl, hz, hl, fun i x hi => ?_⟩⟩
 obtain ⟨v0, v1, g0, g1, g2⟩ := hcs (i + 1) x (by simpa using hi)
 exact ⟨v0, v1, by rw [show o + 2 + i * 2 = o + (i + 1) * 2 from by omega]; exact g0, by rw [show o + 2 + i * 2 + 1 = o + (i + 1) * 2 + 1 from by omega]; exact g1, g2⟩
theorem DepsAt.of_owns {Z : Zone} {w : World} {base : Nat} {e : TypeId} {v : Value} {ys : List Value} {ds : List Dp} (h : w.ownsRow base e 2 v ds.length ys) (hl : WantsAt Z w ys ds) (hz : ∀ b, base ≤ b → Z b) (hm : ds.length ≤ 8796093022208) : DepsAt Z w v ds := by
 rcases h.2 with ⟨rfl, h0⟩ | ⟨g, cap, cur, rfl, hbase, hb, h1, h2, h3, h4⟩
 ·refine ⟨none, 0, by rw [h0], ⟨by omega, by omega, by unfold maxLen; omega, fun _ => ⟨h0, rfl⟩⟩, fun hne => absurd (eN0 h0) hne⟩
 ·refine ⟨some ⟨g, 0, none⟩, cap, rfl, ⟨h1, hm, h2, fun e => by cases e⟩, fun hne => ⟨g, 0, rfl, hz g hbase, loh hb, fun i d hi => ?_⟩⟩
  obtain ⟨v0, v1, g0, g1, g2⟩ := hl i d hi
  have key : ∀ j u, ys[j]? = some u → w.cell? ⟨g, j, none⟩ = some u := fun j u hj => by
   rw [cOh hb]
   rw [← h4, List.getElem?_take] at hj
   split at hj
   ·rw [← Array.getElem?_toList]; exact hj
   ·cases hj
  exact ⟨v0, v1, by rw [Nat.zero_add]; exact key _ _ g0, by rw [Nat.zero_add]; exact key _ _ g1, g2⟩
theorem MeetP.form {left : Int} {w w' : World} {res : Res × Nat} {e : Ending} (h : MeetP left w res e w') : ∃ (a : Option Addr) (n c : Nat) (m e0 : Int), e = .returned (.tuple #[.slice a n c, .int .i64 m, .int .i64 e0]) := by
 obtain ⟨-, h⟩ := h
 obtain ⟨r, b⟩ := res
 cases r with
 | ok c => obtain ⟨vc, rfl, a, cc, rfl, -⟩ := h; exact ⟨_, _, _, _, _, rfl⟩
 | clash => exact ⟨none, 0, 0, _, _, h⟩
 | budget => exact ⟨none, 0, 0, _, _, h⟩
theorem rrec_runs {st : St} {p : Pk} {w w' : World} {e : Ending} (h : RRecP st p zAll w e w') : ∃ (s : ByteArray) (x y z : Int) (t : ByteArray) (a1 : Option Addr) (n1 c1 : Nat) (a2 : Option Addr) (n2 c2 : Nat) (a3 : Option Addr) (c3 : Nat) (b : Bool),
  e = .returned (.tuple #[.agg #[.string s, .int .i64 x, .int .i64 y, .int .i64 z, .string t, .slice a1 n1 c1, .slice a2 n2 c2, .slice a3 (st.runs p).length c3], .bool b]) ∧ DepsAt zAll w' (.slice a3 (st.runs p).length c3) (st.runs p) ∧ Below w.heap.size w w' := by
 obtain ⟨vs, b, rfl, hb, ⟨r, hr, -, hat⟩ | ⟨hr, -, rfl⟩⟩ := h
 ·obtain ⟨t0, t1, b0, r0, rfl, -, ht, hbd, hrn⟩ := hat
  have e1 : st.runs p = r.run := by unfold St.runs; rw [hr]
  rw [e1]
  obtain ⟨a1, c1, f1, -⟩ := ht.2.2
  obtain ⟨a2, c2, f2, -⟩ := hbd
  have hrn' := hrn
  obtain ⟨a3, c3, f3, -⟩ := hrn'
  obtain ⟨s, -, hs, -, -⟩ := strV_is r.pkg.1
  obtain ⟨t, -, ht', -, -⟩ := strV_is r.tool.1
  refine ⟨s, r.pkg.2.1, r.pkg.2.2.1, r.pkg.2.2.2, t, a1, r.tool.2.length, c1, a2, r.build.length, c2, a3, c3, b, ?_, by rw [← f3]; exact hrn, hb⟩
  rw [hs, ht.1, ht', f1, f2, f3]
 ·have e1 : st.runs p = [] := by unfold St.runs; rw [hr]
  rw [e1]
  exact ⟨⟨#[]⟩, 0, 0, 0, ⟨#[]⟩, none, 0, 0, none, 0, 0, none, 0, b, rfl, ⟨none, 0, rfl, ⟨Nat.le_refl _, by simp, by unfold maxLen; omega, fun _ => ⟨rfl, rfl⟩⟩, fun h => absurd rfl h⟩, hb⟩
end Go.Proofs.YtaagkndhgicifaaGreat
