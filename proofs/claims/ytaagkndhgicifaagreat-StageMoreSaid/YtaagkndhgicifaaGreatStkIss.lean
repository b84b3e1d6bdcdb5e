/- DERIVED. stock's IsSeed, walked. -/
import Derived.Test.YtaagkndhgicifaaGreatSv06
namespace Go.Proofs.YtaagkndhgicifaaGreat
open Go.RowKit
set_option linter.unusedVariables false
set_option maxRecDepth 100000
variable {Y : Zone}

theorem isSeed_ent {st : St} (ho : st.Ok) (p : Pk) : st.isSeed p = decide (st.ent p = some none) := by
  unfold St.ent
  cases hr : st.rec? p with
  | none =>
    dsimp only
    cases hs : st.isSeed p <;> simp
  | some r =>
    dsimp only
    obtain ⟨h1, h2⟩ := St.rec?_some hr
    rw [decide_eq_false (by simp), Bool.eq_false_iff, ne_eq, St.isSeed_iff]
    intro hm
    exact (List.nodup_append.1 ho.nodup).2.2 _ hm _ (List.mem_map.2 ⟨r, h1, h2⟩) rfl
theorem GetE.seed {F : List Nat} {st : St} (ho : st.Ok) {p : Pk} {w w' : World} {e : Ending} (h : GetE Y F st p w e w') : ∃ l b sb, e = .returned (.tuple #[.agg l.toArray, .bool b]) ∧ Below w.heap.size w w' ∧ (∃ ss sx sy sz st0 sa1 sn1 sc1 sa2 sn2 sc2 sa3 sn3 sc3, l = [.bool sb, .string ss, .int .i64 sx, .int .i64 sy, .int .i64 sz, .string st0, .slice sa1 sn1 sc1, .slice sa2 sn2 sc2, .slice sa3 sn3 sc3]) ∧ (b && sb) = st.isSeed p := by
  obtain ⟨l, b, rfl, h2, hsh, -, h3⟩ := h.shp
  obtain ⟨sb, ss, sx, sy, sz, st0, sa1, sn1, sc1, sa2, sn2, sc2, sa3, sn3, sc3, hl⟩ := hsh
  refine ⟨l, b, sb, rfl, h2, ⟨ss, sx, sy, sz, st0, sa1, sn1, sc1, sa2, sn2, sc2, sa3, sn3, sc3, hl⟩, ?_⟩
  rw [isSeed_ent ho]
  rcases h3 with ⟨en, he, rfl, hv⟩ | ⟨he, rfl, -⟩
  · rw [he]
    cases en with
    | none =>
      unfold EntV at hv
      rw [hl] at hv
      obtain rfl : sb = true := by injection hv with hv _; injection hv
      rfl
    | some r =>
      obtain ⟨rs, hv, -, -⟩ := hv
      rw [hl] at hv
      obtain rfl : sb = false := by injection hv with hv _; injection hv
      rfl
  · rw [he]
    rfl
set_option maxHeartbeats 4000000 in
theorem stkiss_any (w : World) (B : Nat) (F : List Nat) (st : St) (h : StkAtY Y w B F st) (p : Pk) :
    Calls Tryz.prog 46 #[.pointer (some ⟨B, 0, none⟩), .agg #[strV p.1, .int .i64 p.2.1, .int .i64 p.2.2.1, .int .i64 p.2.2.2]] w (fun e w' => e = .returned (.bool (st.isSeed p)) ∧ Below w.heap.size w w') := by
  have ho : st.Ok := by obtain ⟨_, _, _, _, h⟩ := h; exact h.ok
  obtain ⟨S, -, hS, -, -⟩ := strV_is p.1
  obtain ⟨x, hx⟩ : ∃ x, x = p.2.1 := ⟨_, rfl⟩
  obtain ⟨y, hy⟩ : ∃ x, x = p.2.2.1 := ⟨_, rfl⟩
  obtain ⟨z, hz⟩ : ∃ x, x = p.2.2.2 := ⟨_, rfl⟩
  obtain ⟨w1, hw1, hb1, hx1, y1, y2⟩ := any_block w #[.string S, .int .i64 x, .int .i64 y, .int .i64 z] 41
  have hG := stkget_any w1 B F st (h.below hb1) p
  rw [hS, ← hx, ← hy, ← hz] at hG ⊢
  have k0 := cell_of_heap hx1 0
  have k1 := cell_of_heap hx1 1
  have k2 := cell_of_heap hx1 2
  have k3 := cell_of_heap hx1 3
  have HG := Lib.hid hG; have HB := Lib.hid hb1; have HO := Lib.hid ho
  obtain ⟨R, hR⟩ : ∃ R, R = st.isSeed p := ⟨_, rfl⟩
  rw [← hR]
  have HR := Lib.hid hR
  clear h hG hb1 hx1 hS hx hy hz y1 y2 hR ho
  go_enter Tryz.func46, Tryz.ntmps46
  go_wp2_with fail
  refine HG.out.mono ?_
  intro e w2 hge
  obtain ⟨l, b, sb, rfl, h2, ⟨ss, sx, sy, sz, st0, sa1, sn1, sc1, sa2, sn2, sc2, sa3, sn3, sc3, rfl⟩, hb⟩ := hge.seed HO.out
  have h02 := HB.out.trans (h2.mono HB.out.size)
  have HW := Lib.hid (h02.alloc h02.size (.cells #[.bool sb, .string ss, .int .i64 sx, .int .i64 sy, .int .i64 sz, .string st0, .slice sa1 sn1 sc1, .slice sa2 sn2 sc2, .slice sa3 sn3 sc3] 121))
  have HBB := Lib.hid hb
  clear hge h2 hb h02 k0 k1 k2 k3
  cases b
  · go_wp2_with fail
    go_ret
    exact ⟨by (rw [HR.out, ← HBB.out]; rfl), HW.out⟩
  · go_wp2_with fail
    go_ret
    exact ⟨by (rw [HR.out, ← HBB.out]; rfl), HW.out⟩
end Go.Proofs.YtaagkndhgicifaaGreat
