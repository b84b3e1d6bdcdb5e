/- DERIVED. Texts of this claim, put together: StkGet, StkHas, StkPutM, StkPutN, StkPut, StkPutW, StkSeed. -/
import Derived.Test.YtaagkndhgicifaaGreatSv05
namespace Go.Proofs.YtaagkndhgicifaaGreat
set_option maxHeartbeats 32000000
open Go.RowKit
set_option linter.unusedVariables false
set_option maxRecDepth 100000
variable {Y : Zone}
theorem ptrs_mem {es : List E} {n : List UInt8} {v : Value} (h : (n, [v]) ∈ ptrs es) : ∃ e ∈ es, e.name = n ∧ v = .pointer (some ⟨e.S, 0, none⟩) := by
 obtain ⟨e, he, hx⟩ := List.mem_map.1 h
 obtain ⟨h1, h2⟩ := Prod.mk.inj hx
 exact ⟨e, he, h1, by simpa using h2.symm⟩
theorem ptrs_not {es : List E} {n : List UInt8} (h : ∀ l, (n, l) ∉ ptrs es) : ∀ L, (n, L) ∉ tabOf es := by
 intro L hL
 obtain ⟨e, he, hx⟩ := List.mem_map.1 hL
 obtain ⟨h1, h2⟩ := Prod.mk.inj hx
 exact h _ (List.mem_map.2 ⟨e, he, by rw [h1]⟩)
theorem rows_mem {Z : Zone} {w : World} {rows : List (KV Int)} {L : Sh} (h : RowsL Z w rows L) {k : Int} {l : List Value} (hm : (k, l) ∈ rows) : ∃ en, (k, en) ∈ L ∧ EntV Z w l en := by
 obtain ⟨i, hi⟩ := List.mem_iff_getElem?.1 hm
 obtain ⟨x, hx⟩ : ∃ x, L[i]? = some x := ⟨_, gEg (by rw [← h.1]; exact (gEs.1 hi).1)⟩
 obtain ⟨h1, h2⟩ := h.2 i _ x hi hx
 dsimp only at h1 h2
 exact ⟨x.2, by rw [h1]; exact List.mem_of_getElem? hx, h2⟩
theorem rows_not {Z : Zone} {w : World} {rows : List (KV Int)} {L : Sh} (h : RowsL Z w rows L) {k : Int} (hm : ∀ l, (k, l) ∉ rows) : ∀ en, (k, en) ∉ L := by
 intro en he
 obtain ⟨i, hi⟩ := List.mem_iff_getElem?.1 he
 obtain ⟨x, hx⟩ : ∃ x, rows[i]? = some x := ⟨_, gEg (by rw [h.1]; exact (gEs.1 hi).1)⟩
 obtain ⟨h1, _⟩ := h.2 i x _ hx hi
 dsimp only at h1
 exact hm x.2 (by rw [← h1]; exact List.mem_of_getElem? hx)
theorem ent_none {T : Tb} {st : St} (h : TabT T st) (ho : st.Ok) {p : Pk} (hn : ∀ L en, (p.1, L) ∈ T → (verNum p.2, en) ∉ L) : st.ent p = none := by
 cases he : st.ent p with
 | none => rfl
 | some en =>
  obtain ⟨L, h1, h2⟩ := (h.iff p.1 (verNum p.2) en).2 ((entOf_iff ho).2 he)
  exact absurd h2 (hn L en h1)
theorem ent_some {T : Tb} {st : St} (h : TabT T st) (ho : st.Ok) {p : Pk} {L : Sh} {en : En} (h1 : (p.1, L) ∈ T) (h2 : (verNum p.2, en) ∈ L) : st.ent p = some en := (entOf_iff ho).1 ((h.iff _ _ _).1 ⟨L, h1, h2⟩)
def GetE (Y : Zone) (F : List Nat) (st : St) (p : Pk) (w : World) (e : Ending) (w' : World) : Prop :=
 ∃ l b, e = .returned (.tuple #[.agg l.toArray, .bool b]) ∧ Below w.heap.size w w' ∧ ((∃ en, st.ent p = some en ∧ b = true ∧ EntV (zOut Y F) w' l en) ∨ (st.ent p = none ∧ b = false ∧ l = ent0.toList))
theorem stkget_any (w : World) (B : Nat) (F : List Nat) (st : St) (h : StkAtY Y w B F st) (p : Pk) :
  Calls Tryz.prog 82 #[.pointer (some ⟨B, 0, none⟩), .agg #[strV p.1, .int .i64 p.2.1, .int .i64 p.2.2.1, .int .i64 p.2.2.2]] w (GetE Y F st p w) := by
 obtain ⟨N, vN, es, hF, h⟩ := h
 obtain ⟨S, -, hS, -, -⟩ := strV_is p.1
 obtain ⟨x, hx⟩ : ∃ x, x = p.2.1 := ⟨_, rfl⟩
 obtain ⟨y, hy⟩ : ∃ x, x = p.2.2.1 := ⟨_, rfl⟩
 obtain ⟨z, hz⟩ : ∃ x, x = p.2.2.2 := ⟨_, rfl⟩
 have hV := fun W => vnum_any W p.2
 rw [← hx, ← hy, ← hz] at hV ⊢
 rw [hS]
 obtain ⟨w1, hw1, hb1, hx1, y1, y2⟩ := aBk w #[.string S, .int .i64 x, .int .i64 y, .int .i64 z] 41
 obtain ⟨w2, hw2, hb2, hx2, y3, y4⟩ := aBk w1 #[.bool false, .string ⟨#[]⟩, .int .i64 0, .int .i64 0, .int .i64 0, .string ⟨#[]⟩, .slice none 0 0, .slice none 0 0, .slice none 0 0] 121
 obtain ⟨B3, hB3⟩ : ∃ B, w.heap.size = B := ⟨_, rfl⟩
 obtain ⟨B4, hB4⟩ : ∃ B, w1.heap.size = B := ⟨_, rfl⟩
 have hb12 := hb1.trans (hb2.mono hb1.size)
 have hx12 := (hb2.block _ (by omega)).trans hx1
 have hz0 : ∀ e ∈ es, RowsL (fun b => zOut Y (footOf B N vN es) b ∧ b < B3) w2 e.rows e.L := fun e he => ((h.each e he).2.keep (Z' := fun b => zOut Y (footOf B N vN es) b ∧ b < B3) ⟨fun b hb hz => ⟨hz, by omega⟩, Nat.le_refl _, fun _ _ _ h => h⟩).keep (Keep.below hb12)
 rw [hB3] at hx12; rw [hB4] at hx2
 have HZ0 := hdL hz0
 have h2 := h.keep hb12.size hb12.block
 have hG := fun W (hW : Below w2.heap.size w2 W) => shgetS_any W N vN (ptrs es) p.1 (h2.names.below hW) (by unfold ptrs; rw [List.length_map]; have := h.many.1; have := h.few; omega)
 rw [hS] at hG
 have HG := hdL hG; have HV := hdL hV; have HH := hdL h2; have HB := hdL hb12; have HX3 := hdL hx12; have HX4 := hdL hx2; have HF := hdL hF
 have HSZ := hdL (show w.heap.size = B3 ∧ B4 = B3 + 1 ∧ w2.heap.size = B3 + 2 from by omega)
 have k0 := cOh h2.cells 0
 have k3 := cOh hx12 0
 clear h h2 hz0 hS hx hy hz hV hb1 hb2 hb12 hx1 hx2 hx12 hG hF y1 y2 y3 y4
 go_enter Tryz.func82, Tryz.ntmps82
 go_wp2_with fail
 go_region_held3 (fun W : World => W.cell? ⟨B, 0, none⟩ = some (.pointer (some ⟨N, 0, none⟩)) ∧ W.cell? ⟨B3, 0, none⟩ = some (.string S)) (first | exact ⟨k0, k3⟩ | exact ⟨j0, j3⟩ | go_keep) (first | (go_at_call 96; refine (HG.out _ ((Below.refl _ _).drew)).mono ?_; rintro e w3 ⟨vv, b, rfl, g1, g2, g3⟩; have hb3 := ((Below.refl w2.heap.size w2).drew).trans g3; have j0 := cOh ((hb3.block _ (loh HH.out.cells)).trans HH.out.cells) 0; have hx3 := (hb3.block _ (loh HX3.out)).trans HX3.out; have j3 := cOh hx3 0; have H3 := hdL hb3; have G1 := hdL g1; have G2 := hdL g2; clear g1 g2 g3 hb3 hx3))
 have hx4 := (H3.out.block _ (loh HX4.out)).trans HX4.out
 have hbw : Below B3 w w3 := by have := HB.out.trans (H3.out.mono HB.out.size); rw [HSZ.out.1] at this; exact this
 have HBW := hdL hbw
 clear j0 j3 k0 k3 hbw
 cases b
 ·obtain ⟨rfl, hno⟩ := G2.out rfl
  have HX4W := hdL hx4
  have HN := hdL (ent_none HH.out.tab HH.out.ok (p := p) (fun L en hL => absurd hL (ptrs_not hno L)))
  have q0 : w3.cell? ⟨B4, 0, none⟩ = some (.bool false) := cOh hx4 0
  have q1 : w3.cell? ⟨B4, 1, none⟩ = some (.string ⟨#[]⟩) := cOh hx4 1
  have q2 : w3.cell? ⟨B4, 2, none⟩ = some (.int .i64 0) := cOh hx4 2
  have q3 : w3.cell? ⟨B4, 3, none⟩ = some (.int .i64 0) := cOh hx4 3
  have q4 : w3.cell? ⟨B4, 4, none⟩ = some (.int .i64 0) := cOh hx4 4
  have q5 : w3.cell? ⟨B4, 5, none⟩ = some (.string ⟨#[]⟩) := cOh hx4 5
  have q6 : w3.cell? ⟨B4, 6, none⟩ = some (.slice none 0 0) := cOh hx4 6
  have q7 : w3.cell? ⟨B4, 7, none⟩ = some (.slice none 0 0) := cOh hx4 7
  have q8 : w3.cell? ⟨B4, 8, none⟩ = some (.slice none 0 0) := cOh hx4 8
  have qf := foh hx4
  clear hno hx4
  go_wp2_with fail
  obtain ⟨W, hW, hWx, hWb⟩ := nine_set HX4W.out (.bool false) (.string ⟨#[]⟩) (.int .i64 0) (.int .i64 0) (.int .i64 0) (.string ⟨#[]⟩) (.slice none 0 0) (.slice none 0 0) (.slice none 0 0)
  rw [hW]
  clear hW q0 q1 q2 q3 q4 q5 q6 q7 q8 qf
  have r0 : W.cell? ⟨B4, 0, none⟩ = some (.bool false) := cOh hWx 0
  have r1 : W.cell? ⟨B4, 1, none⟩ = some (.string ⟨#[]⟩) := cOh hWx 1
  have r2 : W.cell? ⟨B4, 2, none⟩ = some (.int .i64 0) := cOh hWx 2
  have r3 : W.cell? ⟨B4, 3, none⟩ = some (.int .i64 0) := cOh hWx 3
  have r4 : W.cell? ⟨B4, 4, none⟩ = some (.int .i64 0) := cOh hWx 4
  have r5 : W.cell? ⟨B4, 5, none⟩ = some (.string ⟨#[]⟩) := cOh hWx 5
  have r6 : W.cell? ⟨B4, 6, none⟩ = some (.slice none 0 0) := cOh hWx 6
  have r7 : W.cell? ⟨B4, 7, none⟩ = some (.slice none 0 0) := cOh hWx 7
  have r8 : W.cell? ⟨B4, 8, none⟩ = some (.slice none 0 0) := cOh hWx 8
  refine bodyPost_ret (v := .tuple #[.agg #[.bool false, .string ⟨#[]⟩, .int .i64 0, .int .i64 0, .int .i64 0, .string ⟨#[]⟩, .slice none 0 0, .slice none 0 0, .slice none 0 0], .bool false]) (by simp [results, Tryz.results82, go_sem, r0, r1, r2, r3, r4, r5, r6, r7, r8]) rfl ?_
  refine ⟨ent0.toList, false, rfl, ?_, .inr ⟨HN.out, rfl, rfl⟩⟩
  rw [hB3]
  exact hWb _ _ (by have := HSZ.out; omega) HBW.out
 ·obtain ⟨e, he, hen, rfl⟩ := ptrs_mem (G1.out rfl)
  have h3 := HH.out.keep H3.out.size H3.out.block
  obtain ⟨hsh, -⟩ := h3.each e he
  have hrl := (HZ0.out e he).keep (Keep.below H3.out)
  have hV3 := HV.out w3
  have hx3 := (H3.out.block _ (loh HX3.out)).trans HX3.out
  have k1 := cOh hx3 1
  have k2 := cOh hx3 2
  have k3 := cOh hx3 3
  have HV3 := hdL hV3; have HE := hdL he; have HEN := hdL hen; have HX4W3 := hdL hx4
  have HI := hdL (fun W (hW : Below w3.heap.size w3 W) => shgetI_any W e.S e.v e.rows (verNum p.2) (hsh.below hW) (fun q hq => by obtain ⟨en, _, hv⟩ := rows_mem hrl (k := q.1) (l := q.2) hq; exact hv.shp) (by have := HH.out.many.2 e he; have := HH.out.few; omega))
  have HRL := hdL hrl
  clear hV3 hx3 he hen hx4 h3 hsh hrl
  go_wp2_with fail
  refine HV3.out.mono ?_
  rintro e' w4 ⟨rfl, h4⟩
  have H4 := hdL h4
  clear h4 k1 k2 k3
  go_wp2_with fail
  refine (HI.out w4 H4.out).mono ?_
  rintro e' w5 ⟨l, b, rfl, g1, g2, g3⟩
  have h35 := H4.out.trans (g3.mono H4.out.size)
  have hx4 := (h35.block _ (loh HX4W3.out)).trans HX4W3.out
  have HB5 := hdL (HBW.out.trans (h35.mono (by have := HSZ.out; have := H3.out.size; omega)))
  have HX4W := hdL hx4
  have HRL5 := hdL (HRL.out.keep (Keep.below h35))
  have hT : (p.1, e.L) ∈ tabOf es := List.mem_map.2 ⟨e, HE.out, by rw [HEN.out]⟩
  have HT := hdL hT
  cases b
  ·obtain ⟨rfl, hno⟩ := g2 rfl
   have HN := hdL (ent_none HH.out.tab HH.out.ok (p := p) (fun L en hL => by rw [← HH.out.tab.one hT hL]; exact rows_not HRL5.out hno en))
   have q0 : w5.cell? ⟨B4, 0, none⟩ = some (.bool false) := cOh hx4 0
   have q1 : w5.cell? ⟨B4, 1, none⟩ = some (.string ⟨#[]⟩) := cOh hx4 1
   have q2 : w5.cell? ⟨B4, 2, none⟩ = some (.int .i64 0) := cOh hx4 2
   have q3 : w5.cell? ⟨B4, 3, none⟩ = some (.int .i64 0) := cOh hx4 3
   have q4 : w5.cell? ⟨B4, 4, none⟩ = some (.int .i64 0) := cOh hx4 4
   have q5 : w5.cell? ⟨B4, 5, none⟩ = some (.string ⟨#[]⟩) := cOh hx4 5
   have q6 : w5.cell? ⟨B4, 6, none⟩ = some (.slice none 0 0) := cOh hx4 6
   have q7 : w5.cell? ⟨B4, 7, none⟩ = some (.slice none 0 0) := cOh hx4 7
   have q8 : w5.cell? ⟨B4, 8, none⟩ = some (.slice none 0 0) := cOh hx4 8
   have qf := foh hx4
   clear hno hx4 g1 g2 g3 h35 hT
   unfold ent0
   go_wp2_with fail
   obtain ⟨W, hW, hWx, hWb⟩ := nine_set HX4W.out (.bool false) (.string ⟨#[]⟩) (.int .i64 0) (.int .i64 0) (.int .i64 0) (.string ⟨#[]⟩) (.slice none 0 0) (.slice none 0 0) (.slice none 0 0)
   rw [hW]
   clear hW q0 q1 q2 q3 q4 q5 q6 q7 q8 qf
   have r0 : W.cell? ⟨B4, 0, none⟩ = some (.bool false) := cOh hWx 0
   have r1 : W.cell? ⟨B4, 1, none⟩ = some (.string ⟨#[]⟩) := cOh hWx 1
   have r2 : W.cell? ⟨B4, 2, none⟩ = some (.int .i64 0) := cOh hWx 2
   have r3 : W.cell? ⟨B4, 3, none⟩ = some (.int .i64 0) := cOh hWx 3
   have r4 : W.cell? ⟨B4, 4, none⟩ = some (.int .i64 0) := cOh hWx 4
   have r5 : W.cell? ⟨B4, 5, none⟩ = some (.string ⟨#[]⟩) := cOh hWx 5
   have r6 : W.cell? ⟨B4, 6, none⟩ = some (.slice none 0 0) := cOh hWx 6
   have r7 : W.cell? ⟨B4, 7, none⟩ = some (.slice none 0 0) := cOh hWx 7
   have r8 : W.cell? ⟨B4, 8, none⟩ = some (.slice none 0 0) := cOh hWx 8
   refine bodyPost_ret (v := .tuple #[.agg #[.bool false, .string ⟨#[]⟩, .int .i64 0, .int .i64 0, .int .i64 0, .string ⟨#[]⟩, .slice none 0 0, .slice none 0 0, .slice none 0 0], .bool false]) (by simp [results, Tryz.results82, go_sem, r0, r1, r2, r3, r4, r5, r6, r7, r8]) rfl ?_
   refine ⟨ent0.toList, false, rfl, ?_, .inr ⟨HN.out, rfl, rfl⟩⟩
   rw [hB3]
   exact hWb _ _ (by have := HSZ.out; omega) HB5.out
  ·have hmem := g1 rfl
   obtain ⟨en, hen, hev⟩ := rows_mem HRL5.out hmem
   have HENT := hdL (ent_some HH.out.tab HH.out.ok hT hen)
   obtain ⟨sb, ss, sx, sy, sz, st0, sa1, sn1, sc1, sa2, sn2, sc2, sa3, sn3, sc3, rfl⟩ := hev.shp
   have HEV := hdL hev
   have q0 : w5.cell? ⟨B4, 0, none⟩ = some (.bool false) := cOh hx4 0
   have q1 : w5.cell? ⟨B4, 1, none⟩ = some (.string ⟨#[]⟩) := cOh hx4 1
   have q2 : w5.cell? ⟨B4, 2, none⟩ = some (.int .i64 0) := cOh hx4 2
   have q3 : w5.cell? ⟨B4, 3, none⟩ = some (.int .i64 0) := cOh hx4 3
   have q4 : w5.cell? ⟨B4, 4, none⟩ = some (.int .i64 0) := cOh hx4 4
   have q5 : w5.cell? ⟨B4, 5, none⟩ = some (.string ⟨#[]⟩) := cOh hx4 5
   have q6 : w5.cell? ⟨B4, 6, none⟩ = some (.slice none 0 0) := cOh hx4 6
   have q7 : w5.cell? ⟨B4, 7, none⟩ = some (.slice none 0 0) := cOh hx4 7
   have q8 : w5.cell? ⟨B4, 8, none⟩ = some (.slice none 0 0) := cOh hx4 8
   have qf := foh hx4
   have HLT := hdL h35.size
   clear hmem hen hev hx4 g1 g2 g3 h35 hT
   go_wp2_with fail
   obtain ⟨W, hW, hWx, hWb⟩ := nine_set HX4W.out (.bool sb) (.string ss) (.int .i64 sx) (.int .i64 sy) (.int .i64 sz) (.string st0) (.slice sa1 sn1 sc1) (.slice sa2 sn2 sc2) (.slice sa3 sn3 sc3)
   rw [hW]
   clear hW q0 q1 q2 q3 q4 q5 q6 q7 q8 qf
   have r0 : W.cell? ⟨B4, 0, none⟩ = some (.bool sb) := cOh hWx 0
   have r1 : W.cell? ⟨B4, 1, none⟩ = some (.string ss) := cOh hWx 1
   have r2 : W.cell? ⟨B4, 2, none⟩ = some (.int .i64 sx) := cOh hWx 2
   have r3 : W.cell? ⟨B4, 3, none⟩ = some (.int .i64 sy) := cOh hWx 3
   have r4 : W.cell? ⟨B4, 4, none⟩ = some (.int .i64 sz) := cOh hWx 4
   have r5 : W.cell? ⟨B4, 5, none⟩ = some (.string st0) := cOh hWx 5
   have r6 : W.cell? ⟨B4, 6, none⟩ = some (.slice sa1 sn1 sc1) := cOh hWx 6
   have r7 : W.cell? ⟨B4, 7, none⟩ = some (.slice sa2 sn2 sc2) := cOh hWx 7
   have r8 : W.cell? ⟨B4, 8, none⟩ = some (.slice sa3 sn3 sc3) := cOh hWx 8
   refine bodyPost_ret (v := .tuple #[.agg #[.bool sb, .string ss, .int .i64 sx, .int .i64 sy, .int .i64 sz, .string st0, .slice sa1 sn1 sc1, .slice sa2 sn2 sc2, .slice sa3 sn3 sc3], .bool true]) (by simp [results, Tryz.results82, go_sem, r0, r1, r2, r3, r4, r5, r6, r7, r8]) rfl ?_
   refine ⟨[.bool sb, .string ss, .int .i64 sx, .int .i64 sy, .int .i64 sz, .string st0, .slice sa1 sn1 sc1, .slice sa2 sn2 sc2, .slice sa3 sn3 sc3], true, rfl, ?_, .inl ⟨en, HENT.out, rfl, ?_⟩⟩
   ·rw [hB3]
    exact hWb _ _ (by have := HSZ.out; omega) HB5.out
   ·have hbW := hWb B4 w5 (Nat.le_refl _) (Below.refl _ _)
    rw [HF.out]
    exact HEV.out.keep (Keep.of_block (fun b _ hz => hz.1) hbW.size (fun b _ hz => hbW.block b (by have := hz.2; have := HSZ.out; omega)))
variable {Y : Zone}
theorem ent0_shp : Shp ent0.toList := ⟨false, ⟨#[]⟩, 0, 0, 0, ⟨#[]⟩, none, 0, 0, none, 0, 0, none, 0, 0, rfl⟩
theorem GetE.shp {F : List Nat} {st : St} {p : Pk} {w w' : World} {e : Ending} (h : GetE Y F st p w e w') : ∃ l b, e = .returned (.tuple #[.agg l.toArray, .bool b]) ∧ Below w.heap.size w w' ∧ Shp l ∧ b = st.has p ∧ ((∃ en, st.ent p = some en ∧ b = true ∧ EntV (zOut Y F) w' l en) ∨ (st.ent p = none ∧ b = false ∧ l = ent0.toList)) := by
 obtain ⟨l, b, h1, h2, h3⟩ := h
 refine ⟨l, b, h1, h2, ?_, ?_, h3⟩
 ·rcases h3 with ⟨en, _, _, hv⟩ | ⟨_, _, rfl⟩
  ·exact hv.shp
  ·exact ent0_shp
 ·rw [← ent_has]
  rcases h3 with ⟨en, he, hb, _⟩ | ⟨he, hb, _⟩ <;> rw [he, hb] <;> rfl
theorem stkhas_any (w : World) (B : Nat) (F : List Nat) (st : St) (h : StkAtY Y w B F st) (p : Pk) :
  Calls Tryz.prog 60 #[.pointer (some ⟨B, 0, none⟩), .agg #[strV p.1, .int .i64 p.2.1, .int .i64 p.2.2.1, .int .i64 p.2.2.2]] w (fun e w' => e = .returned (.bool (st.has p)) ∧ Below w.heap.size w w') := by
 obtain ⟨S, -, hS, -, -⟩ := strV_is p.1
 obtain ⟨x, hx⟩ : ∃ x, x = p.2.1 := ⟨_, rfl⟩
 obtain ⟨y, hy⟩ : ∃ x, x = p.2.2.1 := ⟨_, rfl⟩
 obtain ⟨z, hz⟩ : ∃ x, x = p.2.2.2 := ⟨_, rfl⟩
 obtain ⟨w1, hw1, hb1, hx1, y1, y2⟩ := aBk w #[.string S, .int .i64 x, .int .i64 y, .int .i64 z] 41
 have hG := stkget_any w1 B F st (h.below hb1) p
 rw [hS, ← hx, ← hy, ← hz] at hG ⊢
 obtain ⟨k0, k1, k2, k3⟩ := cells4 hx1
 have HG := hdL hG; have HB := hdL hb1
 obtain ⟨R, hR⟩ : ∃ R, R = st.has p := ⟨_, rfl⟩
 rw [← hR]
 have HR := hdL hR
 clear h hG hb1 hx1 hS hx hy hz y1 y2 hR
 go_enter Tryz.func60, Tryz.ntmps60
 go_wp2_with fail
 refine HG.out.mono ?_
 intro e w2 hge
 obtain ⟨l, b, rfl, h2, ⟨sb, ss, sx, sy, sz, st0, sa1, sn1, sc1, sa2, sn2, sc2, sa3, sn3, sc3, rfl⟩, hb, -⟩ := hge.shp
 have HBB := hdL hb
 have h02 := HB.out.trans (h2.mono HB.out.size)
 have HW := hdL (h02.alloc h02.size (.cells #[.bool sb, .string ss, .int .i64 sx, .int .i64 sy, .int .i64 sz, .string st0, .slice sa1 sn1 sc1, .slice sa2 sn2 sc2, .slice sa3 sn3 sc3] 121))
 clear hge h2 hb h02 k0 k1 k2 k3
 go_wp2_with fail
 go_ret
 exact ⟨by (rw [HR.out, ← HBB.out]; rfl), HW.out⟩
variable {Y : Zone}
def insG {β : Type} (l : List β) (i : Nat) (x : β) : List β := l.take i ++ x :: l.drop i
theorem insG_length {β : Type} (l : List β) (i : Nat) (x : β) (h : i ≤ l.length) : (insG l i x).length = l.length + 1 := by
 simp [insG]; omega
theorem mem_insG {β : Type} {l : List β} {i : Nat} {x y : β} : y ∈ insG l i x ↔ y = x ∨ y ∈ l := by
 have : y ∈ l ↔ y ∈ l.take i ∨ y ∈ l.drop i := by rw [← List.mem_append, List.take_append_drop]
 rw [this, insG, List.mem_append, List.mem_cons]
 constructor
 ·rintro (h | h | h)
  ·exact .inr (.inl h)
  ·exact .inl h
  ·exact .inr (.inr h)
 ·rintro (h | h | h)
  ·exact .inr (.inl h)
  ·exact .inl h
  ·exact .inr (.inr h)
theorem insG_get {β : Type} {l : List β} {i : Nat} {x : β} (hi : i ≤ l.length) (j : Nat) : (insG l i x)[j]? = if j < i then l[j]? else if j = i then some x else l[j - 1]? := by
 unfold insG
 have hl : (l.take i).length = i := by rw [List.length_take]; omega
 by_cases h1 : j < i
 ·rw [if_pos h1, List.getElem?_append_left (by omega), List.getElem?_take, if_pos h1]
 ·rw [if_neg h1, List.getElem?_append_right (by omega), hl]
  by_cases h2 : j = i
  ·subst h2
   rw [if_pos rfl, Nat.sub_self]
   rfl
  ·rw [if_neg h2]
   obtain ⟨d, hd⟩ : ∃ d, j - i = d + 1 := ⟨j - i - 1, by omega⟩
   rw [hd, List.getElem?_cons_succ, List.getElem?_drop]
   congr 1
   omega
theorem insK_eq {α : Type} (ps : List (KV α)) (i : Nat) (p : KV α) : insK ps i p = insG ps i p := rfl
theorem RowsL.ins {Z : Zone} {w : World} {rows : List (KV Int)} {L : Sh} (h : RowsL Z w rows L) {i : Nat} (hi : i ≤ rows.length) {k : Int} {l : List Value} {en : En} (hv : EntV Z w l en) : RowsL Z w (insK rows i (k, l)) (insG L i (k, en)) := by
 have hi2 : i ≤ L.length := by rw [← h.1]; exact hi
 refine ⟨by rw [insK_eq, insG_length _ _ _ hi, insG_length _ _ _ hi2, h.1], fun j p x hp hx => ?_⟩
 rw [insK_eq, insG_get hi] at hp
 rw [insG_get hi2] at hx
 by_cases h1 : j < i
 ·rw [if_pos h1] at hp hx
  exact h.2 j p x hp hx
 ·rw [if_neg h1] at hp hx
  by_cases h2 : j = i
  ·rw [if_pos h2] at hp hx
   obtain rfl := sIj hp
   obtain rfl := sIj hx
   exact ⟨rfl, hv⟩
  ·rw [if_neg h2] at hp hx
   exact h.2 (j - 1) p x hp hx
theorem rows_srt {Z : Zone} {w : World} {rows : List (KV Int)} {L : Sh} (h : RowsL Z w rows L) (hs : SrtK kInt rows) : L.Pairwise fun a b => a.1 < b.1 := by
 rw [List.pairwise_iff_getElem]
 intro i j hi hj hij
 have hi' : i < rows.length := by rw [h.1]; exact hi
 have hj' : j < rows.length := by rw [h.1]; exact hj
 have e1 := (h.2 i _ _ (gEg hi') (gEg hi)).1
 have e2 := (h.2 j _ _ (gEg hj') (gEg hj)).1
 have := (List.pairwise_iff_getElem.1 hs) i j hi' hj' hij
 rw [← e1, ← e2]
 simpa [kInt] using this
def restOf (B N : Nat) (vN : Value) (es1 es2 : List E) : List Nat := B :: (shFoot N vN ++ (es1.flatMap E.foot ++ es2.flatMap E.foot))
theorem foot_perm (B N : Nat) (vN : Value) (es1 es2 : List E) (e : E) : (footOf B N vN (es1 ++ e :: es2)).Perm (e.foot ++ restOf B N vN es1 es2) := by
 unfold footOf restOf
 rw [List.flatMap_append, List.flatMap_cons]
 have h1 : (es1.flatMap E.foot ++ (e.foot ++ es2.flatMap E.foot)).Perm (e.foot ++ (es1.flatMap E.foot ++ es2.flatMap E.foot)) := List.perm_append_comm_assoc _ _ _
 refine ((List.Perm.append_left (shFoot N vN) h1).cons B).trans ?_
 have h2 : (shFoot N vN ++ (e.foot ++ (es1.flatMap E.foot ++ es2.flatMap E.foot))).Perm (e.foot ++ (shFoot N vN ++ (es1.flatMap E.foot ++ es2.flatMap E.foot))) := List.perm_append_comm_assoc _ _ _
 exact (h2.cons B).trans List.perm_middle.symm
theorem shFoot_nodup {S : Nat} {v : Value} (h : v.ownBlock ≠ some S) : (shFoot S v).Nodup := by
 unfold shFoot
 cases hv : v.ownBlock with
 | none => simp
 | some g =>
  rw [hv] at h
  simpa using fun e => h (by rw [e])
theorem put_core {w w' : World} {B N : Nat} {vN : Value} {es1 es2 : List E} {e : E} {st st' : St} {ns nr : Nat} {k : Int} {l : List Value} {en : En} {i : Nat} (h : StkCore Y w B N vN (es1 ++ e :: es2) st ns nr)
  (hp : i ≤ e.rows.length) (hev : EntV (zOut Y (footOf B N vN (es1 ++ e :: es2))) w l en) (ht : ShITo w e.S e.v (insK e.rows i (k, l)) w')
  (he : ∀ m j f, EntOf st' m j f ↔ EntOf st m j f ∨ (m = e.name ∧ j = k ∧ f = en)) (hok : st'.Ok) (hfew : st'.seeds.length ≤ 8 ∧ st'.recs.length ≤ 32) :
  ∃ v', StkCore Y w' B N vN (es1 ++ { e with v := v', L := insG e.L i (k, en), rows := insK e.rows i (k, l) } :: es2) st' ns nr ∧ Ch e.foot w w' ∧ ∀ b ∈ footOf B N vN (es1 ++ { e with v := v', L := insG e.L i (k, en), rows := insK e.rows i (k, l) } :: es2), b ∈ footOf B N vN (es1 ++ e :: es2) ∨ w.heap.size ≤ b := by
 obtain ⟨v', hs, hch, hnew⟩ := ht
 obtain ⟨e', he'⟩ : ∃ e' : E, e' = { e with v := v', L := insG e.L i (k, en), rows := insK e.rows i (k, l) } := ⟨_, rfl⟩
 have n1 : e'.name = e.name := by rw [he']
 have n2 : e'.S = e.S := by rw [he']
 have n3 : e'.v = v' := by rw [he']
 have n4 : e'.L = insG e.L i (k, en) := by rw [he']
 have n5 : e'.rows = insK e.rows i (k, l) := by rw [he']
 refine ⟨v', ?_⟩
 rw [← he']
 have hch : Ch e.foot w w' := hch
 have hnew : ∀ b ∈ e'.foot, b ∈ e.foot ∨ w.heap.size ≤ b := fun b hb => by
  unfold E.foot at hb
  rw [n2, n3] at hb
  exact hnew b hb
 have P := foot_perm B N vN es1 es2 e
 have P' := foot_perm B N vN es1 es2 e'
 have hme : e ∈ es1 ++ e :: es2 := List.mem_append_right _ mCs
 have hnd := (P.nodup_iff.1 h.nodup)
 obtain ⟨d1, d2, d3⟩ := List.nodup_append.1 hnd
 have hR : ∀ b ∈ restOf B N vN es1 es2, b < w.heap.size ∧ b ∉ e.foot := fun b hb => ⟨h.lt b (P.mem_iff.2 (List.mem_append_right _ hb)), fun hf => d3 b hf b hb rfl⟩
 have hsame : ∀ b ∈ restOf B N vN es1 es2, w'.heap[b]? = w.heap[b]? := fun b hb => hch.block b (hR b hb).1 (hR b hb).2
 have hF : ∀ b ∈ footOf B N vN (es1 ++ e' :: es2), b ∈ footOf B N vN (es1 ++ e :: es2) ∨ w.heap.size ≤ b := fun b hb => by
  rcases List.mem_append.1 (P'.mem_iff.1 hb) with hb | hb
  ·exact (hnew b hb).imp (fun hb => P.mem_iff.2 (List.mem_append_left _ hb)) id
  ·exact .inl (P.mem_iff.2 (List.mem_append_right _ hb))
 have hk : Keep (zOut Y (footOf B N vN (es1 ++ e :: es2))) (zOut Y (footOf B N vN (es1 ++ e' :: es2))) w w' := Keep.of_block (fun b hl hz => ⟨fun hb => (hF b hb).elim hz.1 (fun h => by omega), hz.2⟩) hch.size
  (fun b hl hz => hch.block b hl (fun hf => hz.1 (P.mem_iff.2 (List.mem_append_left _ hf))))
 have hB : B ∈ restOf B N vN es1 es2 := mCs
 have hN : ∀ b ∈ shFoot N vN, b ∈ restOf B N vN es1 es2 := fun b hb => mCm _ (List.mem_append_left _ hb)
 have hX : ∀ x, x ∈ es1 ∨ x ∈ es2 → ∀ b ∈ E.foot x, b ∈ restOf B N vN es1 es2 := fun x hx b hb => by
  refine mCm _ (List.mem_append_right _ (List.mem_append.2 ?_))
  exact hx.imp (fun hx => List.mem_flatMap.2 ⟨x, hx, hb⟩) (fun hx => List.mem_flatMap.2 ⟨x, hx, hb⟩)
 have hptr : ptrs (es1 ++ e' :: es2) = ptrs (es1 ++ e :: es2) := by
  unfold ptrs
  rw [List.map_append, List.map_append, List.map_cons, List.map_cons, n1, n2]
 have hs' : ShIAt w' e'.S e'.v e'.rows := by rw [n2, n3, n5]; exact hs
 have hrl : RowsL (zOut Y (footOf B N vN (es1 ++ e' :: es2))) w' e'.rows e'.L := by
  rw [n4, n5]
  exact ((h.each e hme).2.ins hp hev).keep hk
 refine ⟨⟨(hsame B hB).trans h.cells, by rw [hptr]; exact h.names.keep (fun k hk => hsame k (hN k hk)), fun x hx => ?_, ?_, ?_, hok, hfew⟩, hch, hF⟩
 ·have hx' : x = e' ∨ (x ∈ es1 ∨ x ∈ es2) := by
   rcases List.mem_append.1 hx with hx | hx
   ·exact .inr (.inl hx)
   ·rcases List.mem_cons.1 hx with hx | hx
    ·exact .inl hx
    ·exact .inr (.inr hx)
  rcases hx' with rfl | hx'
  ·exact ⟨hs', hrl⟩
  ·have hm : x ∈ es1 ++ e :: es2 := by
    rcases hx' with hx' | hx'
    ·exact List.mem_append_left _ hx'
    ·exact List.mem_append_right _ (mCm _ hx')
   exact ⟨(h.each x hm).1.keep (fun b hb => hsame b (hX x hx' b hb)), (h.each x hm).2.keep hk⟩
 ·refine P'.nodup_iff.2 (List.nodup_append.2 ⟨shFoot_nodup hs'.apart, d2, fun a ha b hb => ?_⟩)
  rintro rfl
  rcases hnew a ha with h1 | h1
  ·exact (hR a hb).2 h1
  ·exact absurd (hR a hb).1 (by omega)
 ·have hT : tabOf (es1 ++ e :: es2) = tabOf es1 ++ (e.name, e.L) :: tabOf es2 := by simp [tabOf]
  have hT' : tabOf (es1 ++ e' :: es2) = tabOf es1 ++ (e.name, insG e.L i (k, en)) :: tabOf es2 := by simp [tabOf, n1, n4]
  have hsrt := h.tab.srt
  rw [hT] at hsrt
  obtain ⟨s1, s2, s3⟩ := List.pairwise_append.1 hsrt
  obtain ⟨s4, s5⟩ := List.pairwise_cons.1 s2
  have u1 : ∀ x ∈ tabOf es1, x.1 ≠ e.name := fun x hx hn => by
   have := s3 x hx _ mCs
   dsimp only at this
   rw [hn, less_irrefl] at this
   cases this
  have u2 : ∀ x ∈ tabOf es2, x.1 ≠ e.name := fun x hx hn => by
   have := s4 x hx
   dsimp only at this
   rw [hn, less_irrefl] at this
   cases this
  refine tab_put h.tab (n := e.name) (k := k) (e := en) (L' := insG e.L i (k, en)) he ?_ ?_ ?_ ?_
  ·rw [hT']
   refine List.pairwise_append.2 ⟨s1, List.pairwise_cons.2 ⟨s4, s5⟩, fun a ha b hb => ?_⟩
   rcases List.mem_cons.1 hb with rfl | hb
   ·have q := s3 a ha (e.name, e.L) mCs
    exact q
   ·exact s3 a ha b (mCm _ hb)
  ·rw [← n4]
   exact rows_srt hrl hs'.srt
  ·intro m M
   rw [hT, hT', List.mem_append, List.mem_append, List.mem_cons, List.mem_cons]
   constructor
   ·rintro (h1 | h1 | h1)
    ·exact .inl ⟨u1 _ h1, .inl h1⟩
    ·exact .inr ⟨congrArg Prod.fst h1, congrArg Prod.snd h1⟩
    ·exact .inl ⟨u2 _ h1, .inr (.inr h1)⟩
   ·rintro (⟨hmn, h1 | h1 | h1⟩ | ⟨rfl, rfl⟩)
    ·exact .inl h1
    ·exact absurd (congrArg Prod.fst h1) hmn
    ·exact .inr (.inr h1)
    ·exact .inr (.inl rfl)
  ·intro x
   have hmT : (e.name, e.L) ∈ tabOf (es1 ++ e :: es2) := by rw [hT]; exact List.mem_append_right _ mCs
   rw [mem_insG]
   refine or_congr_right ⟨fun hx => ⟨e.L, hmT, hx⟩, fun ⟨L, hL, hx⟩ => ?_⟩
   rw [h.tab.one hmT hL]
   exact hx
variable {Y : Zone}
theorem foot_empty (S : Nat) : shFoot S (.slice none 0 0) = [S] := rfl
theorem add_core {w0 w w' : World} {B N : Nat} {vN : Value} {es : List E} {st : St} {ns nr S i : Nat} {n : List UInt8} (h : StkCore Y w0 B N vN es st ns nr) (hb : Below w0.heap.size w0 w) (hS : w0.heap.size ≤ S)
  (hSh : ShIAt w S (.slice none 0 0) []) (hi : i ≤ es.length) (ht : ShSTo w N vN (insK (ptrs es) i (n, [.pointer (some ⟨S, 0, none⟩)])) w') :
  ∃ vN', StkCore Y w' B N vN' (es.take i ++ ⟨n, S, .slice none 0 0, [], []⟩ :: es.drop i) st ns nr ∧ Ch (footOf B N vN es) w0 w' ∧ (∀ b ∈ footOf B N vN' (es.take i ++ ⟨n, S, .slice none 0 0, [], []⟩ :: es.drop i), b ∈ footOf B N vN es ∨ w0.heap.size ≤ b) ∧
   Keep (zOut Y (footOf B N vN es)) (zOut Y (footOf B N vN' (es.take i ++ ⟨n, S, .slice none 0 0, [], []⟩ :: es.drop i))) w0 w' := by
 obtain ⟨vN', hs, hch, hnew⟩ := ht
 refine ⟨vN', ?_⟩
 obtain ⟨e0, he0⟩ : ∃ e0 : E, e0 = ⟨n, S, .slice none 0 0, [], []⟩ := ⟨_, rfl⟩
 rw [← he0]
 have n1 : e0.name = n := by rw [he0]
 have n2 : e0.S = S := by rw [he0]
 have n3 : e0.v = .slice none 0 0 := by rw [he0]
 have n4 : e0.L = [] := by rw [he0]
 have n5 : e0.rows = [] := by rw [he0]
 have nf : e0.foot = [S] := by unfold E.foot; rw [n2, n3, foot_empty]
 have hSl : S < w.heap.size := loh hSh.cells
 have hsz := hb.size
 obtain ⟨m1, hm1⟩ : ∃ es1, es1 = es.take i := ⟨_, rfl⟩
 obtain ⟨m2, hm2⟩ : ∃ es2, es2 = es.drop i := ⟨_, rfl⟩
 have hes : es = m1 ++ m2 := by rw [hm1, hm2, List.take_append_drop]
 have hpt : insK (ptrs es) i (n, [.pointer (some ⟨S, 0, none⟩)]) = ptrs (m1 ++ e0 :: m2) := by
  rw [insK_eq, hm1, hm2]
  unfold ptrs insG
  rw [List.map_append, List.map_cons, n1, n2, List.map_take, List.map_drop]
 rw [hpt] at hs
 rw [← hm1, ← hm2]
 have P : (footOf B N vN' (m1 ++ e0 :: m2)).Perm (S :: (B :: (shFoot N vN' ++ es.flatMap E.foot))) := by
  refine (foot_perm B N vN' m1 m2 e0).trans ?_
  unfold restOf
  rw [nf, hes, List.flatMap_append]
  exact List.Perm.refl _
 have hnd := h.nodup
 unfold footOf at hnd
 obtain ⟨dB, dR⟩ := List.nodup_cons.1 hnd
 obtain ⟨d1, d2, d3⟩ := List.nodup_append.1 dR
 have hBl : B < w0.heap.size := loh h.cells
 have hNl := h.names.lt
 have hEl : ∀ b ∈ es.flatMap E.foot, b < w0.heap.size := fun b hb => h.lt b (mCm _ (List.mem_append_right _ hb))
 have hF : ∀ b ∈ footOf B N vN' (m1 ++ e0 :: m2), b ∈ footOf B N vN es ∨ w0.heap.size ≤ b := fun b hbb => by
  rcases List.mem_cons.1 (P.mem_iff.1 hbb) with rfl | hbb
  ·exact .inr hS
  ·unfold footOf
   rcases List.mem_cons.1 hbb with rfl | hbb
   ·exact .inl mCs
   ·rcases List.mem_append.1 hbb with hbb | hbb
    ·rcases hnew b hbb with h1 | h1
     ·exact .inl (mCm _ (List.mem_append_left _ h1))
     ·exact .inr (by omega)
    ·exact .inl (mCm _ (List.mem_append_right _ hbb))
 have hsame : ∀ b, b < w0.heap.size → b ∉ shFoot N vN → w'.heap[b]? = w0.heap[b]? := fun b hl hn => (hch.block b (by omega) hn).trans (hb.block b hl)
 have hc : Ch (footOf B N vN es) w0 w' := (Ch.of_below hb (footOf B N vN es)).trans hch (fun x hx => .inl (mCm _ (List.mem_append_left _ hx)))
 have hk : Keep (zOut Y (footOf B N vN es)) (zOut Y (footOf B N vN' (m1 ++ e0 :: m2))) w0 w' := Keep.of_block (fun b hl hz => ⟨fun hbb => (hF b hbb).elim hz.1 (fun h => by omega), hz.2⟩) hc.size (fun b hl hz => hc.block b hl hz.1)
 have hSs : ShIAt w' S (.slice none 0 0) [] := hSh.keep (fun k hk => by
  rw [foot_empty] at hk
  obtain rfl := mSg.1 hk
  exact hch.block k hSl (fun hx => absurd (hNl k hx) (by omega)))
 refine ⟨⟨(hsame B hBl (fun hx => dB (List.mem_append_left _ hx))).trans h.cells, hs, fun x hx => ?_, ?_, ?_, h.ok, h.few⟩, hc, hF, hk⟩
 ·have hx' : x = e0 ∨ x ∈ es := by
   rw [hes]
   rcases List.mem_append.1 hx with hx | hx
   ·exact .inr (List.mem_append_left _ hx)
   ·rcases List.mem_cons.1 hx with hx | hx
    ·exact .inl hx
    ·exact .inr (List.mem_append_right _ hx)
  rcases hx' with rfl | hx'
  ·rw [n2, n3, n4, n5]
   exact ⟨hSs, rfl, fun i p x hp => by simp at hp⟩
  ·exact ⟨(h.each x hx').1.keep (fun b hbb => hsame b ((h.each x hx').1.lt b hbb) (fun hy => d3 b hy b (List.mem_flatMap.2 ⟨x, hx', hbb⟩) rfl)), (h.each x hx').2.keep hk⟩
 ·refine P.nodup_iff.2 (List.nodup_cons.2 ⟨fun hx => ?_, List.nodup_cons.2 ⟨fun hx => ?_, List.nodup_append.2 ⟨shFoot_nodup hs.apart, d2, fun a ha b hbb => ?_⟩⟩⟩)
  ·rcases List.mem_cons.1 hx with hx | hx
   ·omega
   ·rcases List.mem_append.1 hx with hx | hx
    ·rcases hnew S hx with h1 | h1
     ·exact absurd (hNl S h1) (by omega)
     ·omega
    ·exact absurd (hEl S hx) (by omega)
  ·rcases List.mem_append.1 hx with hx | hx
   ·rcases hnew B hx with h1 | h1
    ·exact dB (List.mem_append_left _ h1)
    ·omega
   ·exact dB (List.mem_append_right _ hx)
  ·rintro rfl
   rcases hnew a ha with h1 | h1
   ·exact d3 a h1 a hbb rfl
   ·exact absurd (hEl a hbb) (by omega)
 ·have hT : tabOf (m1 ++ e0 :: m2) = tabOf m1 ++ (n, []) :: tabOf m2 := by simp [tabOf, n1, n4]
  have hT0 : tabOf es = tabOf m1 ++ tabOf m2 := by rw [hes]; simp [tabOf]
  have hmem : ∀ m M, (m, M) ∈ tabOf (m1 ++ e0 :: m2) ↔ (m = n ∧ M = []) ∨ (m, M) ∈ tabOf es := fun m M => by
   rw [hT, hT0, List.mem_append, List.mem_cons, List.mem_append]
   constructor
   ·rintro (h1 | h1 | h1)
    ·exact .inr (.inl h1)
    ·exact .inl ⟨congrArg Prod.fst h1, congrArg Prod.snd h1⟩
    ·exact .inr (.inr h1)
   ·rintro (⟨rfl, rfl⟩ | h1 | h1)
    ·exact .inr (.inl rfl)
    ·exact .inl h1
    ·exact .inr (.inr h1)
  refine ⟨?_, fun m M hM => ?_, fun m k f => ?_⟩
  ·have q := hs.srt
   unfold SrtK ptrs at q
   unfold tabOf
   rw [List.pairwise_map] at q ⊢
   exact q
  ·rcases (hmem m M).1 hM with ⟨_, rfl⟩ | hM
   ·exact List.Pairwise.nil
   ·exact h.tab.inner m M hM
  ·rw [← h.tab.iff]
   constructor
   ·rintro ⟨L, hL, hx⟩
    rcases (hmem m L).1 hL with ⟨_, rfl⟩ | hL
    ·cases hx
    ·exact ⟨L, hL, hx⟩
   ·rintro ⟨L, hL, hx⟩
    exact ⟨L, (hmem m L).2 (.inr hL), hx⟩
set_option linter.unusedSimpArgs false
variable {Y : Zone}
structure PutMid (Y : Zone) (w : World) (B : Nat) (F : List Nat) (st : St) (ns nr m : Nat) (n : List UInt8) (k : Int) (l : List Value) (en : En) (wx : World) (N : Nat) (vN : Value) (es1 : List E) (e : E) (es2 : List E) : Prop where
 name : e.name = n
 core : StkCore Y wx B N vN (es1 ++ e :: es2) st ns nr
 ch : Ch F w wx
 foot : ∀ b ∈ footOf B N vN (es1 ++ e :: es2), b ∈ F ∨ w.heap.size ≤ b
 ent : EntV (zOut Y (footOf B N vN (es1 ++ e :: es2))) wx l en
 new : ∀ l, (k, l) ∉ e.rows
 len : (es1 ++ e :: es2).length ≤ m + 1
 rows : ∀ x ∈ es1 ++ e :: es2, x.rows.length ≤ m
theorem PutMid.below {w : World} {B : Nat} {F : List Nat} {st : St} {ns nr m : Nat} {n : List UInt8} {k : Int} {l : List Value} {en : En} {wx wy : World} {N : Nat} {vN : Value} {es1 : List E} {e : E} {es2 : List E}
  (h : PutMid Y w B F st ns nr m n k l en wx N vN es1 e es2) (hb : Below wx.heap.size wx wy) : PutMid Y w B F st ns nr m n k l en wy N vN es1 e es2 :=
 ⟨h.name, h.core.keep hb.size hb.block, h.ch.trans (Ch.of_below hb F) (fun x hx => .inl hx), h.foot, h.ent.keep (Keep.below hb), h.new, h.len, h.rows⟩
def PutP (Y : Zone) (w : World) (B : Nat) (F : List Nat) (st' : St) (ns nr m : Nat) (w' : World) : Prop :=
 ∃ N vN es, StkCore Y w' B N vN es st' ns nr ∧ Ch F w w' ∧ (∀ b ∈ footOf B N vN es, b ∈ F ∨ w.heap.size ≤ b) ∧ es.length ≤ m + 1 ∧ ∀ x ∈ es, x.rows.length ≤ m + 1
theorem PutMid.put {w : World} {B : Nat} {F : List Nat} {st st' : St} {ns nr m : Nat} {n : List UInt8} {k : Int} {l : List Value} {en : En} {wx w' : World} {N : Nat} {vN : Value} {es1 : List E} {e : E} {es2 : List E}
  (h : PutMid Y w B F st ns nr m n k l en wx N vN es1 e es2) {i : Nat} (hp : PosK kInt e.rows k i) (ht : ShITo wx e.S e.v (insK e.rows i (k, l)) w')
  (he : ∀ m j f, EntOf st' m j f ↔ EntOf st m j f ∨ (m = n ∧ j = k ∧ f = en)) (hok : st'.Ok) (hfew : st'.seeds.length ≤ 8 ∧ st'.recs.length ≤ 32) : PutP Y w B F st' ns nr m w' := by
 obtain ⟨v', h1, h2, h3⟩ := put_core h.core hp.le h.ent ht (by rw [h.name]; exact he) hok hfew
 have hm : e ∈ es1 ++ e :: es2 := List.mem_append_right _ mCs
 refine ⟨N, vN, _, h1, h.ch.trans h2 (fun x hx => h.foot x (foot_mem hm hx)), fun b hb => ?_, ?_, fun x hx => ?_⟩
 ·rcases h3 b hb with h4 | h4
  ·exact h.foot b h4
  ·exact .inr (Nat.le_trans h.ch.size h4)
 ·have := h.len
  rw [lAp, List.length_cons] at this ⊢
  exact this
 ·rcases List.mem_append.1 hx with hx | hx
  ·exact Nat.le_succ_of_le (h.rows x (List.mem_append_left _ hx))
  ·rcases List.mem_cons.1 hx with rfl | hx
   ·have := h.rows e hm
    rw [insK_eq, insG_length _ _ _ hp.le]
    omega
   ·exact Nat.le_succ_of_le (h.rows x (List.mem_append_right _ (mCm _ hx)))
theorem mid_old {w wx : World} {B N : Nat} {vN : Value} {es : List E} {st : St} {ns nr m : Nat} {n : List UInt8} {k : Int} {l : List Value} {en : En} (h : StkCore Y w B N vN es st ns nr) (hb : Below w.heap.size w wx) (hl : es.length ≤ m) (hr : ∀ x ∈ es, x.rows.length ≤ m)
  (hev : EntV (zOut Y (footOf B N vN es)) w l en) (hno : ∀ f, ¬ EntOf st n k f) {v : Value} (hm : (n, [v]) ∈ ptrs es) : ∃ es1 e es2, es = es1 ++ e :: es2 ∧ v = .pointer (some ⟨e.S, 0, none⟩) ∧ PutMid Y w B (footOf B N vN es) st ns nr m n k l en wx N vN es1 e es2 := by
 obtain ⟨e, he, hn, hv⟩ := ptrs_mem hm
 obtain ⟨es1, es2, rfl⟩ := List.append_of_mem he
 refine ⟨es1, e, es2, rfl, hv, hn, h.keep hb.size hb.block, Ch.of_below hb _, fun b hb => .inl hb, hev.keep (Keep.below hb), fun l hl => ?_, Nat.le_succ_of_le hl, hr⟩
 obtain ⟨f, hf, -⟩ := rows_mem (h.each e he).2 hl
 exact hno f ((h.tab.iff n k f).1 ⟨e.L, List.mem_map.2 ⟨e, he, by rw [hn]⟩, hf⟩)
theorem mid_new {w w1 wx : World} {B N S i : Nat} {vN : Value} {es : List E} {st : St} {ns nr m : Nat} {n : List UInt8} {k : Int} {l : List Value} {en : En} (h : StkCore Y w B N vN es st ns nr) (hb : Below w.heap.size w w1) (hl : es.length ≤ m) (hr : ∀ x ∈ es, x.rows.length ≤ m)
  (hev : EntV (zOut Y (footOf B N vN es)) w l en) (hS : w.heap.size ≤ S) (hSh : ShIAt w1 S (.slice none 0 0) []) (hi : i ≤ es.length) (ht : ShSTo w1 N vN (insK (ptrs es) i (n, [.pointer (some ⟨S, 0, none⟩)])) wx) :
  ∃ vN' es1 e es2, S = e.S ∧ PutMid Y w B (footOf B N vN es) st ns nr m n k l en wx N vN' es1 e es2 := by
 obtain ⟨vN', h1, h2, h3, h4⟩ := add_core h hb hS hSh hi ht
 refine ⟨vN', _, ⟨n, S, .slice none 0 0, [], []⟩, _, rfl, rfl, h1, h2, h3, hev.keep h4, (fun l hl => by simp at hl), ?_, fun x hx => ?_⟩
 ·rw [lAp, List.length_cons, List.length_take, List.length_drop]
  omega
 ·rcases List.mem_append.1 hx with hx | hx
  ·exact hr x (List.mem_of_mem_take hx)
  ·rcases List.mem_cons.1 hx with rfl | hx
   ·exact Nat.zero_le _
   ·exact hr x (List.mem_of_mem_drop hx)
variable {Y : Zone}
theorem ShIAt.fresh {w : World} {S : Nat} (h : w.heap[S]? = some (.cells #[.slice none 0 0] 187 (0, 0))) : ShIAt w S (.slice none 0 0) [] := by
 exact ⟨h, World.ownsRow_nil _ _ _ _, (by simp [Value.ownBlock]), List.Pairwise.nil, WidK.nil _⟩
theorem ShIAt.drewK {w : World} {S : Nat} {v : Value} {ps : List (KV Int)} (h : ShIAt w S v ps) : ShIAt w.drew S v ps := h.keep (fun _ _ => rfl)
theorem stkput_any (w : World) (B N : Nat) (vN : Value) (es : List E) (st st' : St) (ns nr m : Nat) (p : Pk) (l : List Value) (en : En) (h : StkCore Y w B N vN es st ns nr) (hl : es.length ≤ m) (hr : ∀ x ∈ es, x.rows.length ≤ m) (hm : m ≤ 999)
  (hev : EntV (zOut Y (footOf B N vN es)) w l en) (hno : ∀ f, ¬ EntOf st p.1 (verNum p.2) f) (he : ∀ m j f, EntOf st' m j f ↔ EntOf st m j f ∨ (m = p.1 ∧ j = verNum p.2 ∧ f = en)) (hok : st'.Ok) (hfew : st'.seeds.length ≤ 8 ∧ st'.recs.length ≤ 32) :
  Calls Tryz.prog 61 #[.pointer (some ⟨B, 0, none⟩), .agg #[strV p.1, .int .i64 p.2.1, .int .i64 p.2.2.1, .int .i64 p.2.2.2], .agg l.toArray] w (fun e w' => e = .returned (.tuple #[]) ∧ PutP Y w B (footOf B N vN es) st' ns nr m w') := by
 obtain ⟨S, -, hS, -, -⟩ := strV_is p.1
 obtain ⟨x, hx⟩ : ∃ x, x = p.2.1 := ⟨_, rfl⟩
 obtain ⟨y, hy⟩ : ∃ x, x = p.2.2.1 := ⟨_, rfl⟩
 obtain ⟨z, hz⟩ : ∃ x, x = p.2.2.2 := ⟨_, rfl⟩
 obtain ⟨k, hk⟩ : ∃ k, k = verNum p.2 := ⟨_, rfl⟩
 have hV := fun W => vnum_any W p.2
 rw [← hk] at hV hno he
 rw [← hx, ← hy, ← hz] at hV ⊢
 rw [hS]
 have hsh := hev.shp
 obtain ⟨sb, ss, sx, sy, sz, st0, sa1, sn1, sc1, sa2, sn2, sc2, sa3, sn3, sc3, hv⟩ := id hsh
 subst hv
 obtain ⟨w1, hw1, hb1, hx1, y1, y2⟩ := aBk w #[.string S, .int .i64 x, .int .i64 y, .int .i64 z] 41
 obtain ⟨w2, hw2, hb2, hx2, y3, y4⟩ := aBk w1 #[.bool sb, .string ss, .int .i64 sx, .int .i64 sy, .int .i64 sz, .string st0, .slice sa1 sn1 sc1, .slice sa2 sn2 sc2, .slice sa3 sn3 sc3] 121
 obtain ⟨B3, hB3⟩ : ∃ B, w.heap.size = B := ⟨_, rfl⟩
 obtain ⟨B4, hB4⟩ : ∃ B, w1.heap.size = B := ⟨_, rfl⟩
 have hb12 := hb1.trans (hb2.mono hb1.size)
 have hx12 := (hb2.block _ (by omega)).trans hx1
 rw [hB3] at hx12; rw [hB4] at hx2
 have h2 := h.keep hb12.size hb12.block
 have hpl : (ptrs es).length ≤ 999 := by unfold ptrs; rw [List.length_map]; omega
 have hG := fun W (hW : Below w2.heap.size w2 W) => shgetS_any W N vN (ptrs es) p.1 (h2.names.below hW) (by omega)
 have hPS := fun W P (hW : Below w2.heap.size w2 W) (hn : ∀ l, (p.1, l) ∉ ptrs es) => shputS_any W N vN (ptrs es) p.1 P (h2.names.below hW) (by omega) hn
 have hPI := fun W v rows (e : Nat) (hW : ShIAt W e v rows) (hl : rows.length ≤ m) (hn : ∀ l, (k, l) ∉ rows) => shputI_any W e v rows k [.bool sb, .string ss, .int .i64 sx, .int .i64 sy, .int .i64 sz, .string st0, .slice sa1 sn1 sc1, .slice sa2 sn2 sc2, .slice sa3 sn3 sc3] hsh hW (by omega) hn
 rw [hS] at hG hPS
 have hfl : B < w.heap.size ∧ ∀ b ∈ shFoot N vN, b < w.heap.size := ⟨loh h.cells, h.names.lt⟩
 have hBN : B ∉ shFoot N vN := fun hb => (List.nodup_cons.1 h.nodup).1 (List.mem_append_left _ hb)
 have HFL := hdL hfl; have HBN := hdL hBN
 have HOLD := hdL (fun (wx : World) (hb : Below w.heap.size w wx) (v : Value) (hm : (p.1, [v]) ∈ ptrs es) => mid_old (wx := wx) h hb hl hr hev hno hm)
 have HNEW := hdL (fun (w1 wx : World) (S i : Nat) (hb : Below w.heap.size w w1) (hS : w.heap.size ≤ S) (hSh : ShIAt w1 S (.slice none 0 0) []) (hi : i ≤ es.length) (ht : ShSTo w1 N vN (insK (ptrs es) i (p.1, [.pointer (some ⟨S, 0, none⟩)])) wx) => mid_new (k := k) (m := m) h hb hl hr hev hS hSh hi ht)
 have HEND := hdL (fun (wx w' : World) N' vN' es1 e es2 i (hm : PutMid Y w B (footOf B N vN es) st ns nr m p.1 k [.bool sb, .string ss, .int .i64 sx, .int .i64 sy, .int .i64 sz, .string st0, .slice sa1 sn1 sc1, .slice sa2 sn2 sc2, .slice sa3 sn3 sc3] en wx N' vN' es1 e es2) (hp : PosK kInt e.rows k i) (ht : ShITo wx e.S e.v (insK e.rows i (k, _)) w') => hm.put hp ht he hok hfew)
 have HG := hdL hG; have HV := hdL hV; have HH := hdL h2; have HB := hdL hb12; have HX3 := hdL hx12; have HX4 := hdL hx2; have HPS := hdL hPS; have HPI := hdL hPI
 have HSZ := hdL (show w.heap.size = B3 ∧ B4 = B3 + 1 ∧ w2.heap.size = B3 + 2 from by omega)
 have HPL := hdL (show (ptrs es).length = es.length from by unfold ptrs; rw [List.length_map])
 have k0 := cOh h2.cells 0
 have k3 := cOh hx12 0
 clear h h2 hS hx hy hz hV hb1 hb2 hb12 hx1 hx2 hx12 hG hPS hPI y1 y2 y3 y4 hl hr hev hno he hok hfew hm hk hpl hsh hfl hBN
 go_enter Tryz.func61, Tryz.ntmps61
 go_wp2_with fail
 go_region_held3 (fun W : World => W.cell? ⟨B, 0, none⟩ = some (.pointer (some ⟨N, 0, none⟩)) ∧ W.cell? ⟨B3, 0, none⟩ = some (.string S)) (first | exact ⟨k0, k3⟩ | exact ⟨j0, j3⟩ | go_keep) (first | (go_at_call 96; refine (HG.out _ ((Below.refl _ _).drew)).mono ?_; rintro e w3 ⟨vv, b, rfl, g1, g2, g3⟩; have hb3 := ((Below.refl w2.heap.size w2).drew).trans g3; have j0 := cOh ((hb3.block _ (loh HH.out.cells)).trans HH.out.cells) 0; have hx3 := (hb3.block _ (loh HX3.out)).trans HX3.out; have j3 := cOh hx3 0; have H3 := hdL hb3; have G1 := hdL g1; have G2 := hdL g2; clear g1 g2 g3 hb3 hx3))
 have HBW := hdL (HB.out.trans (H3.out.mono HB.out.size))
 have HX3W := hdL ((H3.out.block _ (loh HX3.out)).trans HX3.out)
 have HX4W := hdL ((H3.out.block _ (loh HX4.out)).trans HX4.out)
 go_upto_if 19 with fail
 go_cut [6] (fun x6 wx => ∃ S6 N' vN' es1 e es2, x6 = .pointer (some ⟨S6, 0, none⟩) ∧ Hid (S6 = e.S) ∧ Hid (PutMid Y w B (footOf B N vN es) st ns nr m p.1 k [.bool sb, .string ss, .int .i64 sx, .int .i64 sy, .int .i64 sz, .string st0, .slice sa1 sn1 sc1, .slice sa2 sn2 sc2, .slice sa3 sn3 sc3] en wx N' vN' es1 e es2) ∧ Hid (wx.heap[B3]? = some (.cells #[.string S, .int .i64 x, .int .i64 y, .int .i64 z] 41 (0, 0))) ∧ Hid (wx.heap[B4]? = some (.cells #[.bool sb, .string ss, .int .i64 sx, .int .i64 sy, .int .i64 sz, .string st0, .slice sa1 sn1 sc1, .slice sa2 sn2 sc2, .slice sa3 sn3 sc3] 121 (0, 0))))
 case first =>
  cases b
  ·obtain ⟨rfl, hno⟩ := G2.out rfl
   have HNO := hdL hno; clear hno
   go_wp2_with fail
   refine (shnewI_any w3).mono ?_
   rintro e w4 ⟨rfl, hw4⟩
   obtain ⟨w4', hw4', hb4, hx4, y1, y2⟩ := aBk w3 #[.slice none 0 0] 187
   rw [hw4'] at hw4
   subst hw4
   obtain ⟨S6, hS6⟩ : ∃ S, w3.heap.size = S := ⟨_, rfl⟩
   rw [hS6] at hx4
   rw [hS6]
   have h24 := H3.out.trans (hb4.mono H3.out.size)
   have HSH := hdL (ShIAt.fresh hx4)
   have H4 := hdL h24
   have HB4 := hdL (HB.out.trans (h24.mono HB.out.size))
   have HX3Y := hdL ((h24.block _ (loh HX3.out)).trans HX3.out)
   have HX4Y := hdL ((h24.block _ (loh HX4.out)).trans HX4.out)
   have HS6 := hdL (show w.heap.size ≤ S6 from by rw [← hS6]; exact HBW.out.size)
   have HW4 := hdL (show w2.heap.size ≤ w4.heap.size from h24.size)
   have p0 : w4.cell? ⟨B, 0, none⟩ = some (.pointer (some ⟨N, 0, none⟩)) := cOh ((h24.block _ (loh HH.out.cells)).trans HH.out.cells) 0
   have p3 : w4.cell? ⟨B3, 0, none⟩ = some (.string S) := cOh HX3Y.out 0
   clear hw4' hb4 hx4 y1 y2 hS6 h24 j0 j3 k0 k3
   go_wp2_with fail
   go_region_held3 (fun W : World => W.cell? ⟨B, 0, none⟩ = some (.pointer (some ⟨N, 0, none⟩)) ∧ W.cell? ⟨B3, 0, none⟩ = some (.string S)) (first | exact ⟨p0, p3⟩ | exact ⟨q0, q3⟩ | go_keep) (first | (go_at_call 98; refine (HPS.out _ _ H4.out.drew HNO.out).mono ?_; rintro e w5 ⟨i, rfl, g1, g2⟩; have HG1 := hdL g1; have HG2 := hdL g2; obtain ⟨v5, -, hch, -⟩ := g2; have HC5 := hdL (show ∀ b, b < w2.heap.size → b ∉ shFoot N vN → w5.heap[b]? = w4.heap[b]? from fun b hb hn => hch.block b (Nat.lt_of_lt_of_le hb HW4.out) hn); have q0 : w5.cell? ⟨B, 0, none⟩ = some (.pointer (some ⟨N, 0, none⟩)) := (World.cell?_of_block (HC5.out B (loh HH.out.cells) HBN.out)).trans p0; have HX3Z := hdL ((HC5.out B3 (loh HX3.out) (fun hb => absurd (HFL.out.2 B3 hb) (by have := HSZ.out; omega))).trans HX3Y.out); have q3 : w5.cell? ⟨B3, 0, none⟩ = some (.string S) := cOh HX3Z.out 0; have HX4Z := hdL ((HC5.out B4 (loh HX4.out) (fun hb => absurd (HFL.out.2 B4 hb) (by have := HSZ.out; omega))).trans HX4Y.out); clear g1 hch))
   obtain ⟨vN', es1, e, es2, hSe, hmid⟩ := HNEW.out _ w5 S6 i HB4.out.drew HS6.out (HSH.out.drewK) (by have := HG1.out.le; have := HPL.out; omega) HG2.out
   have HM := hdL hmid; have HSe := hdL hSe
   clear hmid hSe q0 q3 p0 p3
   go_wp2_with fail
   go_meet
   exact ⟨S6, N, vN', es1, e, es2, rfl, HSe, HM, HX3Z, HX4Z⟩
  ·obtain ⟨es1, e, es2, -, rfl, hmid⟩ := HOLD.out w3 HBW.out vv (G1.out rfl)
   have HM := hdL hmid
   obtain ⟨S6, hS6⟩ : ∃ S, S = e.S := ⟨_, rfl⟩
   have HS6 := hdL hS6
   rw [← hS6]
   clear hmid hS6
   go_wp2_with fail
   go_meet
   exact ⟨S6, N, vN, es1, e, es2, rfl, HS6, HM, HX3W, HX4W⟩
 obtain ⟨S6, N', vN', es1, e, es2, rfl, HSe, HM, HX3Z, HX4Z⟩ := hcut
 obtain ⟨W6, hW6⟩ : ∃ W, W = wc := ⟨_, rfl⟩
 subst hW6
 go_upto_region 5 with fail
 refine UpTo.start (fun W : World => W.cell? ⟨B3, 1, none⟩ = some (.int .i64 x) ∧ W.cell? ⟨B3, 2, none⟩ = some (.int .i64 y) ∧ W.cell? ⟨B3, 3, none⟩ = some (.int .i64 z) ∧ W.cell? ⟨B4, 0, none⟩ = some (.bool sb) ∧ W.cell? ⟨B4, 1, none⟩ = some (.string ss) ∧ W.cell? ⟨B4, 2, none⟩ = some (.int .i64 sx) ∧ W.cell? ⟨B4, 3, none⟩ = some (.int .i64 sy) ∧ W.cell? ⟨B4, 4, none⟩ = some (.int .i64 sz) ∧ W.cell? ⟨B4, 5, none⟩ = some (.string st0) ∧ W.cell? ⟨B4, 6, none⟩ = some (.slice sa1 sn1 sc1) ∧ W.cell? ⟨B4, 7, none⟩ = some (.slice sa2 sn2 sc2) ∧ W.cell? ⟨B4, 8, none⟩ = some (.slice sa3 sn3 sc3)) 5 (by kernel_rfl) ?_
 have hS0 : (fun W : World => W.cell? ⟨B3, 1, none⟩ = some (.int .i64 x) ∧ W.cell? ⟨B3, 2, none⟩ = some (.int .i64 y) ∧ W.cell? ⟨B3, 3, none⟩ = some (.int .i64 z) ∧ W.cell? ⟨B4, 0, none⟩ = some (.bool sb) ∧ W.cell? ⟨B4, 1, none⟩ = some (.string ss) ∧ W.cell? ⟨B4, 2, none⟩ = some (.int .i64 sx) ∧ W.cell? ⟨B4, 3, none⟩ = some (.int .i64 sy) ∧ W.cell? ⟨B4, 4, none⟩ = some (.int .i64 sz) ∧ W.cell? ⟨B4, 5, none⟩ = some (.string st0) ∧ W.cell? ⟨B4, 6, none⟩ = some (.slice sa1 sn1 sc1) ∧ W.cell? ⟨B4, 7, none⟩ = some (.slice sa2 sn2 sc2) ∧ W.cell? ⟨B4, 8, none⟩ = some (.slice sa3 sn3 sc3)) W6.drew := ⟨cOh HX3Z.out 1, cOh HX3Z.out 2, cOh HX3Z.out 3, cOh HX4Z.out 0, cOh HX4Z.out 1, cOh HX4Z.out 2, cOh HX4Z.out 3, cOh HX4Z.out 4, cOh HX4Z.out 5, cOh HX4Z.out 6, cOh HX4Z.out 7, cOh HX4Z.out 8⟩
 refine UpTo.takeP 0 (v := .pointer (some ⟨S6, 0, none⟩)) rfl (by kernel_rfl) (by kernel_rfl) (by kernel_rfl) (by kernel_rfl) (fun _ _ _ h => h) (Or.inl ⟨by rfl, ?_⟩) hS0 ?_
 ·intro w hSw; rfl
 try simp only [Act.put, sqZ]
 refine UpTo.takeP 1 (v := .pointer (some ⟨B3, 1, none⟩)) rfl (by kernel_rfl) (by kernel_rfl) (by kernel_rfl) (by kernel_rfl) (fun _ _ _ h => h) (Or.inl ⟨by rfl, ?_⟩) hS0 ?_
 ·intro w hSw; rfl
 try simp only [Act.put, sqZ]
 refine UpTo.take 4 (v := .agg #[.bool sb, .string ss, .int .i64 sx, .int .i64 sy, .int .i64 sz, .string st0, .slice sa1 sn1 sc1, .slice sa2 sn2 sc2, .slice sa3 sn3 sc3]) rfl (by kernel_rfl) (by kernel_rfl) (by kernel_rfl) (by kernel_rfl) (fun _ _ _ h => h) (Or.inl ⟨by rfl, ?_⟩) hS0 ?_
 ·intro w hSw; obtain ⟨q0, q1, q2, q3, q4, q5, q6, q7, q8, q9, q10, q11⟩ := hSw; go_simp
 try simp only [Act.put, sqZ]
 have p1 : W6.cell? ⟨B3, 1, none⟩ = some (.int .i64 x) := cOh HX3Z.out 1
 have p2 : W6.cell? ⟨B3, 2, none⟩ = some (.int .i64 y) := cOh HX3Z.out 2
 have p3 : W6.cell? ⟨B3, 3, none⟩ = some (.int .i64 z) := cOh HX3Z.out 3
 refine UpTo.one 2 (by kernel_rfl) rfl (fun K hK => ?_)
 try simp only [sqG]
 go_simp
 refine hK.out _ _ (fun _ => hS0) ?_
 clear hK K
 try simp only [Act.put, sqZ]
 refine UpTo.one 3 (by kernel_rfl) rfl (fun K hK => ?_)
 try simp only [sqG]
 go_simp
 go_at_call 100
 refine (HV.out _).mono ?_
 rintro e' w7 ⟨rfl, h7⟩
 have hb7 := ((Below.refl _ W6).drew).trans h7
 have HM7 := hdL (HM.out.below hb7)
 have HX3Q := hdL ((hb7.block _ (loh HX3Z.out)).trans HX3Z.out)
 have HX4Q := hdL ((hb7.block _ (loh HX4Z.out)).trans HX4Z.out)
 clear hS0 h7 hb7 p1 p2 p3
 have hS0 : (fun W : World => W.cell? ⟨B3, 1, none⟩ = some (.int .i64 x) ∧ W.cell? ⟨B3, 2, none⟩ = some (.int .i64 y) ∧ W.cell? ⟨B3, 3, none⟩ = some (.int .i64 z) ∧ W.cell? ⟨B4, 0, none⟩ = some (.bool sb) ∧ W.cell? ⟨B4, 1, none⟩ = some (.string ss) ∧ W.cell? ⟨B4, 2, none⟩ = some (.int .i64 sx) ∧ W.cell? ⟨B4, 3, none⟩ = some (.int .i64 sy) ∧ W.cell? ⟨B4, 4, none⟩ = some (.int .i64 sz) ∧ W.cell? ⟨B4, 5, none⟩ = some (.string st0) ∧ W.cell? ⟨B4, 6, none⟩ = some (.slice sa1 sn1 sc1) ∧ W.cell? ⟨B4, 7, none⟩ = some (.slice sa2 sn2 sc2) ∧ W.cell? ⟨B4, 8, none⟩ = some (.slice sa3 sn3 sc3)) w7 := ⟨cOh HX3Q.out 1, cOh HX3Q.out 2, cOh HX3Q.out 3, cOh HX4Q.out 0, cOh HX4Q.out 1, cOh HX4Q.out 2, cOh HX4Q.out 3, cOh HX4Q.out 4, cOh HX4Q.out 5, cOh HX4Q.out 6, cOh HX4Q.out 7, cOh HX4Q.out 8⟩
 try go_simp
 refine hK.out _ _ (fun _ => hS0) ?_
 clear hK K
 try simp only [Act.put, sqZ]
 refine UpTo.one 5 (by kernel_rfl) rfl (fun K hK => ?_)
 try simp only [sqG]
 try go_simp
 go_at_call 99
 rw [HSe.out]
 refine (HPI.out _ _ _ _ (HM7.out.core.each e (List.mem_append_right _ mCs)).1 (HM7.out.rows e (List.mem_append_right _ mCs)) HM7.out.new).mono ?_
 rintro e' w8 ⟨i, rfl, g1, g2⟩
 have HE := hdL (HEND.out _ _ _ _ _ _ _ _ HM7.out g1 g2)
 clear g1 g2 hS0
 try go_simp
 refine hK.out _ _ (fun h => by cases h) ?_
 clear hK K
 try simp only [Act.put, sqZ]
 refine UpTo.done (by kernel_rfl) ?_
 go_wp2_with fail
 go_end0
 exact ⟨rfl, HE.out⟩
variable {Y : Zone}
theorem ShSAt.fresh {w : World} {S : Nat} (h : w.heap[S]? = some (.cells #[.slice none 0 0] 155 (0, 0))) : ShSAt w S (.slice none 0 0) [] :=
 ⟨h, World.ownsRow_nil _ _ _ _, (by simp [Value.ownBlock]), List.Pairwise.nil, WidK.nil _⟩
theorem StkCore.recount {w w' : World} {B N : Nat} {vN : Value} {es : List E} {st : St} {ns nr ns' nr' : Nat} (h : StkCore Y w B N vN es st ns nr) (hw : w'.heap[B]? = some (.cells #[.pointer (some ⟨N, 0, none⟩), .int .i64 ns', .int .i64 nr'] 116 (0, 0))) (hs : w.heap.size ≤ w'.heap.size) (hb : ∀ b, b ≠ B → w'.heap[b]? = w.heap[b]?) : StkCore Y w' B N vN es st ns' nr' := by
 have hn := List.nodup_cons.1 h.nodup
 have hk : Keep (zOut Y (footOf B N vN es)) (zOut Y (footOf B N vN es)) w w' := Keep.of_block (fun _ _ h => h) hs (fun b _ hz => hb b (fun e => hz.1 (by rw [e]; exact mCs)))
 exact ⟨hw, h.names.keep (fun k hk => hb k (fun e => hn.1 (by rw [← e]; exact List.mem_append_left _ hk))), fun e he => ⟨(h.each e he).1.keep (fun k hk => hb k (fun e2 => hn.1 (by rw [← e2]; exact List.mem_append_right _ (List.mem_flatMap.2 ⟨e, he, hk⟩)))), (h.each e he).2.keep hk⟩, h.nodup, h.tab, h.ok, h.few⟩
def NewPY (Y : Zone) (w : World) (e : Ending) (w' : World) : Prop := ∃ B F, e = .returned (.pointer (some ⟨B, 0, none⟩)) ∧ StkAtY Y w' B F St.empty ∧ (∀ b ∈ F, w.heap.size ≤ b) ∧ Below w.heap.size w w'
theorem stknewY_any (Y : Zone) (w : World) : Calls Tryz.prog 25 #[] w (NewPY Y w) := by
 obtain ⟨w1, hw1, hb1, hx1, y1, y2⟩ := aBk w #[.slice none 0 0] 155
 obtain ⟨N, hN⟩ : ∃ N, w.heap.size = N := ⟨_, rfl⟩
 have hS := shnewS_any w
 rw [hN] at hS
 obtain ⟨w2, hw2, hb2, hx2, y3, y4⟩ := aBk w1 #[.pointer (some ⟨N, 0, none⟩), .int .i64 0, .int .i64 0] 116
 have HS := hdL hS
 have HB := hdL (hb1.trans (hb2.mono hb1.size))
 have HX := hdL (show StkAtY Y w2 w1.heap.size [w1.heap.size, N] St.empty from by
  rw [hN] at hx1
  have g1 := (hb2.block _ (by omega)).trans hx1
  exact ⟨N, .slice none 0 0, [], rfl, ⟨⟨hx2, ShSAt.fresh g1, (fun e he => by cases he), (by simp [footOf, shFoot, Value.ownBlock]; omega), tab_empty, ⟨(fun p hp => by cases hp), List.nodup_nil⟩, ⟨Nat.zero_le _, Nat.zero_le _⟩⟩, ⟨Nat.zero_le _, fun e he => by cases he⟩⟩⟩)
 have HSZ := hdL (show w.heap.size = N ∧ w1.heap.size = N + 1 from by omega)
 have HW1 := hdL hw1; have HW2 := hdL hw2
 clear hS hb1 hb2 hx1 hx2 y1 y2 y3 y4 hw1 hw2 hN
 go_enter Tryz.func25, Tryz.ntmps25
 go_wp2_with fail
 refine HS.out.mono ?_
 rintro e w' ⟨rfl, hw'⟩
 rw [HW1.out] at hw'
 subst hw'
 have hw2 := HW2.out
 go_wp2_with fail
 go_ret
 refine ⟨_, _, rfl, HX.out, fun b hb => ?_, HB.out⟩
 have := HSZ.out
 simp at hb
 omega
abbrev NewP (w : World) (e : Ending) (w' : World) : Prop := NewPY zAll w e w'
theorem stknew_any (w : World) : Calls Tryz.prog 25 #[] w (NewP w) := stknewY_any zAll w
def SeedPY (Y : Zone) (w : World) (B : Nat) (F : List Nat) (st' : St) (c : Int) (e : Ending) (w' : World) : Prop := e = .returned (.int .i64 c) ∧ ∃ F', StkAtY Y w' B F' st' ∧ Ch F w w' ∧ ∀ b ∈ F', b ∈ F ∨ w.heap.size ≤ b
abbrev SeedP (w : World) (B : Nat) (F : List Nat) (st' : St) (c : Int) (e : Ending) (w' : World) : Prop := SeedPY zAll w B F st' c e w'
theorem SeedPY.same {w w' : World} {B : Nat} {F : List Nat} {st : St} {c : Int} (h : StkAtY Y w B F st) (hb : Below w.heap.size w w') : SeedPY Y w B F st c (.returned (.int .i64 c)) w' := ⟨rfl, F, h.below hb, Ch.of_below hb F, fun b hb => .inl hb⟩
theorem stkseed_any (w : World) (B : Nat) (F : List Nat) (st : St) (h : StkAtY Y w B F st) (p : Pk) (hl : p.1.length ≤ 140737488351232) :
  Calls Tryz.prog 26 #[.pointer (some ⟨B, 0, none⟩), .agg #[strV p.1, .int .i64 p.2.1, .int .i64 p.2.2.1, .int .i64 p.2.2.2]] w (SeedPY Y w B F (st.seed p).1 (st.seed p).2) := by
 obtain ⟨S, -, hS, -, -⟩ := strV_is p.1
 obtain ⟨x, hx⟩ : ∃ x, x = p.2.1 := ⟨_, rfl⟩
 obtain ⟨y, hy⟩ : ∃ x, x = p.2.2.1 := ⟨_, rfl⟩
 obtain ⟨z, hz⟩ : ∃ x, x = p.2.2.2 := ⟨_, rfl⟩
 have hN := fun W => nameV_any W p.1 hl
 have hV := fun W => vgood_any W p.2
 have hH := fun W (hw : Below w.heap.size w W) => stkhas_any W B F st (h.below hw) p
 obtain ⟨r1, hr1⟩ : ∃ R, R = nameB p.1 := ⟨_, rfl⟩
 obtain ⟨r2, hr2⟩ : ∃ R, R = verGood p.2 := ⟨_, rfl⟩
 obtain ⟨r3, hr3⟩ : ∃ R, R = st.has p := ⟨_, rfl⟩
 rw [← hr1] at hN; rw [← hr2] at hV; rw [← hr3] at hH
 obtain ⟨st', hst⟩ : ∃ s, s = (st.seed p).1 := ⟨_, rfl⟩
 obtain ⟨c, hc⟩ : ∃ s, s = (st.seed p).2 := ⟨_, rfl⟩
 rw [← hst, ← hc]
 have hseed := seed_errs st p
 obtain ⟨w1, hw1, hb1, hx1, y1, y2⟩ := aBk w #[.string S, .int .i64 x, .int .i64 y, .int .i64 z] 41
 rw [hS, ← hx, ← hy, ← hz] at hH ⊢
 rw [hS] at hN
 rw [← hx, ← hy, ← hz] at hV
 obtain ⟨B3, hB3⟩ : ∃ B, w.heap.size = B := ⟨_, rfl⟩
 obtain ⟨k0, k1, k2, k3⟩ := cells4 hx1
 rw [hB3] at k0 k1 k2 k3 hx1
 have HN := hdL hN; have HV := hdL hV; have HH := hdL hH; have H := hdL h; have HB := hdL hb1; have HX := hdL hx1
 have HST := hdL hst; have HC := hdL hc; have HR1 := hdL hr1; have HR2 := hdL hr2; have HR3 := hdL hr3; have HSD := hdL hseed
 have HXYZ := hdL (And.intro hx (And.intro hy hz))
 clear hN hV hH h hb1 hx1 hst hc hr1 hr2 hr3 hseed hx hy hz y1 y2 hl
 go_enter Tryz.func26, Tryz.ntmps26
 go_wp2_with fail
 refine (HN.out _).mono ?_
 rintro e w2 ⟨rfl, h2⟩
 have H2 := hdL (HB.out.trans (h2.mono HB.out.size))
 have HX2 := hdL ((h2.block _ (loh HX.out)).trans HX.out)
 clear k0 k1 k2 k3 h2
 obtain ⟨k0, k1, k2, k3⟩ := cells4 HX2.out
 cases r1
 ·go_wp2_with fail
  go_ret
  obtain ⟨rfl, rfl⟩ : st' = st ∧ c = 1 := by
   rw [HST.out, HC.out]
   unfold St.seed pkgB
   rw [← HR1.out]
   exact ⟨rfl, rfl⟩
  exact SeedPY.same H.out H2.out
 ·go_wp2_with fail
  refine (HV.out _).mono ?_
  rintro e w3 ⟨rfl, h3⟩
  have H3 := hdL (H2.out.trans (h3.mono H2.out.size))
  have HX3 := hdL ((h3.block _ (loh HX2.out)).trans HX2.out)
  clear k0 k1 k2 k3 h3
  obtain ⟨k0, k1, k2, k3⟩ := cells4 HX3.out
  cases r2
  ·go_wp2_with fail
   go_ret
   obtain ⟨rfl, rfl⟩ : st' = st ∧ c = 1 := by
    rw [HST.out, HC.out]
    unfold St.seed pkgB
    rw [← HR1.out, ← HR2.out]
    exact ⟨rfl, rfl⟩
   exact SeedPY.same H.out H3.out
  ·go_wp2_with fail
   refine (HH.out _ H3.out).mono ?_
   rintro e w4 ⟨rfl, h4⟩
   have H4 := hdL (H3.out.trans (h4.mono H3.out.size))
   have HX4 := hdL ((h4.block _ (loh HX3.out)).trans HX3.out)
   clear k0 k1 k2 k3 h4
   obtain ⟨k0, k1, k2, k3⟩ := cells4 HX4.out
   cases r3
   ·obtain ⟨N, vN, es, hF, h5⟩ := H.out.below H4.out
    subst hF
    by_cases h8 : st.seeds.length = 8
    ·have m0 : w4.cell? ⟨B, 1, none⟩ = some (.int .i64 8) := by
      have := cOh h5.cells 1
      rw [h8] at this
      exact this
     clear h5
     have H8 := hdL h8; clear h8
     go_wp2_with fail
     go_ret
     obtain ⟨rfl, rfl⟩ : st' = st ∧ c = 13 := by
      rw [HST.out, HC.out]
      unfold St.seed pkgB
      rw [← HR1.out, ← HR2.out, ← HR3.out, if_pos H8.out]
      exact ⟨rfl, rfl⟩
     exact SeedPY.same H.out H4.out
    ·obtain ⟨hst', hc'⟩ : st' = ⟨st.seeds ++ [p], st.recs⟩ ∧ c = 0 := by
      rw [HST.out, HC.out]
      unfold St.seed pkgB
      rw [← HR1.out, ← HR2.out, ← HR3.out, if_neg h8]
      exact ⟨rfl, rfl⟩
     subst hst' hc'
     have hfew := h5.few
     have hent : ∀ f, ¬ EntOf st p.1 (verNum p.2) f := fun f hf => by
      have := (entOf_iff h5.ok).1 hf
      have h9 := HR3.out
      rw [← ent_has, this] at h9
      cases h9
     have hP := stkput_any w4 B N vN es st ⟨st.seeds ++ [p], st.recs⟩ st.seeds.length st.recs.length (st.seeds.length + st.recs.length) p [.bool true, .string ⟨#[]⟩, .int .i64 0, .int .i64 0, .int .i64 0, .string ⟨#[]⟩, .slice none 0 0, .slice none 0 0, .slice none 0 0] none h5.toStkCore h5.many.1 h5.many.2 (by omega) rfl hent
      (fun m j f => ent_seed HR2.out.symm m j f) (ok_seed h5.ok HR2.out.symm HR3.out.symm) ⟨by rw [lAp]; simp; omega, hfew.2⟩
     rw [hS, ← HXYZ.out.1, ← HXYZ.out.2.1, ← HXYZ.out.2.2] at hP
     have HP := hdL hP; have H5 := hdL h5
     have m0 : w4.cell? ⟨B, 1, none⟩ = some (.int .i64 (st.seeds.length : Int)) := cOh h5.cells 1
     obtain ⟨n, hn⟩ : ∃ n, n = st.seeds.length := ⟨_, rfl⟩
     rw [← hn] at m0 h8
     have n1 : ((n : Int) == 8) = false := by simp; omega
     have n2 : (n : Int) ≤ 7 := by omega
     have n3 : (0 : Int) ≤ n := by omega
     have HNN := hdL hn
     clear hP h5 h8 hfew hent hn
     go_wp2_with fail
     refine HP.out.mono ?_
     rintro e w5 ⟨rfl, N', vN', es', g1, g2, g3, g4, g5⟩
     have q1 : w5.cell? ⟨B, 1, none⟩ = some (.int .i64 (st.seeds.length : Int)) := cOh g1.cells 1
     rw [← HNN.out] at q1
     have qf := foh g1.cells
     have G1 := hdL g1; have G2 := hdL g2; have G3 := hdL g3; have G4 := hdL g4; have G5 := hdL g5
     clear g1 g2 g3 g4 g5 m0
     go_wp2_with fail
     go_ret
     have s1 := set_at 1 (.int .i64 ((n : Int) + 1)) G1.out.cells (ds := #[.pointer (some ⟨N', 0, none⟩), .int .i64 ((n : Int) + 1), .int .i64 st.recs.length]) (by simp)
     have hn : st.seeds.length = n := HNN.out.symm
     have hBl := loh H5.out.cells
     have hBF : B ∈ footOf B N vN es := mCs
     refine ⟨rfl, footOf B N' vN' es', ⟨N', vN', es', rfl, (G1.out.recount (ns' := n + 1) (nr' := st.recs.length) s1 (by simp [World.setCell]) (fun b hb => bHs _ _ _ _ (by simpa using hb))) |> fun h => ⟨by rw [lAp, hn]; exact h, ?_⟩⟩, ?_, fun b hb => ?_⟩
     ·exact ((Ch.of_below H4.out _).trans G2.out (fun x hx => .inl hx)).setCell (p := ⟨B, 1, none⟩) (.inl hBF) _
     ·exact (G3.out b hb).imp id (fun h => Nat.le_trans H4.out.size h)
     ·have e1 : (st.seeds ++ [p]).length = st.seeds.length + 1 := by simp
      show es'.length ≤ (st.seeds ++ [p]).length + st.recs.length ∧ ∀ e ∈ es', e.rows.length ≤ (st.seeds ++ [p]).length + st.recs.length
      rw [e1]
      exact ⟨by have := G4.out; omega, fun x hx => by have := G5.out x hx; omega⟩
   ·go_wp2_with fail
    go_ret
    obtain ⟨rfl, rfl⟩ : st' = st ∧ c = 11 := by
     rw [HST.out, HC.out]
     unfold St.seed pkgB
     rw [← HR1.out, ← HR2.out, ← HR3.out]
     exact ⟨rfl, rfl⟩
    exact SeedPY.same H.out H4.out
end Go.Proofs.YtaagkndhgicifaaGreat
