/- DERIVED. stock's All: all packages in their order: the iterator's contract. stock's IsSeed. -/
import Derived.Test.YtaagkndhgicifaaGreatSv08
import Derived.Test.YtaagkndhgicifaaGreatShAll
namespace Go.Proofs.YtaagkndhgicifaaGreat
open Go.RowKit Go.Shelf
set_option linter.unusedVariables false
set_option linter.unusedSimpArgs false
set_option maxRecDepth 100000
variable {Y : Zone}
attribute [local go_sem] Oper.semAt_some

def keysE (n : List UInt8) (ks : List Int) : List Pk := ks.map fun k => (n, verOf k)
theorem keysE_app (n : List UInt8) (a b : List Int) : keysE n (a ++ b) = keysE n a ++ keysE n b := by simp [keysE]
def keysT (T : Tb) : List Pk := T.flatMap fun x => keysE x.1 (x.2.map Prod.fst)
theorem keysT_all {T : Tb} {s : St} (h : TabT T s) (ho : s.Ok) : keysT T = s.all := by
  refine srtP_ext ?_ (sortP_srt _) (fun p => ?_)
  · refine List.pairwise_flatMap.2 ⟨fun x hx => ?_, h.srt.imp (fun {a b} hab p hp q hq => ?_)⟩
    · unfold keysE
      rw [List.map_map, List.pairwise_map]
      refine List.Pairwise.imp_of_mem (fun {a b} ha hb hab => ?_) (h.inner x.1 x.2 hx)
      have h1 := (h.iff x.1 a.1 a.2).1 ⟨x.2, hx, ha⟩
      have h2 := (h.iff x.1 b.1 b.2).1 ⟨x.2, hx, hb⟩
      obtain ⟨g1, e1⟩ := verOf_good h1.1 h1.2.1
      obtain ⟨g2, e2⟩ := verOf_good h2.1 h2.2.1
      show pkLt (x.1, verOf a.1) (x.1, verOf b.1) = true
      unfold pkLt
      rw [if_pos rfl]
      show verLt (verOf a.1) (verOf b.1) = true
      rw [verLt_num g1 g2, e1, e2]
      exact decide_eq_true hab
    · unfold keysE at hp hq
      obtain ⟨k, _, rfl⟩ := List.mem_map.1 hp
      obtain ⟨m, _, rfl⟩ := List.mem_map.1 hq
      unfold pkLt
      rw [if_neg (less_ne hab)]
      exact hab
  · unfold keysT keysE
    rw [List.mem_flatMap, St.mem_all]
    constructor
    · rintro ⟨x, hx, hp⟩
      obtain ⟨k, hk, rfl⟩ := List.mem_map.1 hp
      obtain ⟨y, hy, rfl⟩ := List.mem_map.1 hk
      have h1 := (h.iff x.1 y.1 y.2).1 ⟨x.2, hx, hy⟩
      unfold St.pkgs
      rcases h1.2.2 with ⟨_, h2⟩ | ⟨r, hr, _, h2⟩
      · exact List.mem_append_left _ h2
      · exact List.mem_append_right _ (List.mem_map.2 ⟨r, hr, h2⟩)
    · intro hp
      have hh : (s.ent p).isSome = true := by rw [ent_has]; exact St.has_iff.2 hp
      obtain ⟨e, he⟩ := Option.isSome_iff_exists.1 hh
      obtain ⟨L, hL, hx⟩ := (h.iff _ _ _).2 ((entOf_iff ho).2 he)
      refine ⟨(p.1, L), hL, List.mem_map.2 ⟨verNum p.2, List.mem_map.2 ⟨_, hx, rfl⟩, ?_⟩⟩
      show (p.1, verOf (verNum p.2)) = p
      rw [verOf_num (ho.good p hp)]
def outE (es : List E) : List Pk := es.flatMap fun e => keysE e.name (e.rows.map Prod.fst)
theorem outE_app (a b : List E) : outE (a ++ b) = outE a ++ outE b := by simp [outE]
theorem outE_one (e : E) : outE [e] = keysE e.name (e.rows.map Prod.fst) := by simp [outE]
theorem outE_all {w : World} {B N : Nat} {vN : Value} {es : List E} {st : St} {ns nr : Nat} (h : StkIn Y w B N vN es st ns nr) : outE es = st.all := by
  rw [← keysT_all h.tab h.ok]
  unfold outE keysT tabOf
  rw [List.flatMap_map]
  rw [List.flatMap_def, List.flatMap_def]
  refine congrArg List.flatten (List.map_congr_left fun e he => ?_)
  rw [rowsL_keys (h.each e he).2]
theorem out_pre {es : List E} {k : Nat} {e : E} (he : es[k]? = some e) {ks : List Int} (hk : ks <+: e.rows.map Prod.fst) : outE (es.take k) ++ keysE e.name ks <+: outE es := by
  obtain ⟨r, hr⟩ := hk
  have h1 : es = es.take k ++ ([e] ++ es.drop (k + 1)) := by
    have hl := (List.getElem?_eq_some_iff.1 he).1
    conv => lhs; rw [← List.take_append_drop k es, List.drop_eq_getElem_cons hl, (List.getElem?_eq_some_iff.1 he).2]
    rfl
  conv => rhs; rw [h1]
  rw [outE_app, outE_app, outE_one, ← hr, keysE_app]
  exact ⟨keysE e.name r ++ outE (es.drop (k + 1)), by simp only [List.append_assoc]⟩
theorem out_next {es : List E} {k : Nat} {e : E} (he : es[k]? = some e) : outE (es.take (k + 1)) = outE (es.take k) ++ keysE e.name (e.rows.map Prod.fst) := by
  rw [List.take_add_one, he, outE_app]
  show _ ++ outE [e] = _
  rw [outE_one]
theorem ptrs_at {es : List E} {pre : List (KV (List UInt8))} {x : KV (List UInt8)} (h : pre ++ [x] <+: ptrs es) : ∃ e, es[pre.length]? = some e ∧ x = (e.name, [.pointer (some ⟨e.S, 0, none⟩)]) := by
  have h1 : (ptrs es)[pre.length]? = some x := by
    obtain ⟨r, hr⟩ := h
    rw [← hr, List.append_assoc, List.getElem?_append_right (Nat.le_refl _), Nat.sub_self]
    rfl
  unfold ptrs at h1
  rw [List.getElem?_map] at h1
  cases he : es[pre.length]? with
  | none => rw [he] at h1; cases h1
  | some e => rw [he] at h1; exact ⟨e, rfl, (Option.some.inj h1).symm⟩
theorem ShIAt.keepX {X : Nat → Obj → Prop} {A B : World} {S : Nat} {v : Value} {ps : List (KV Int)} (h : ShIAt A S v ps) (hc : CellsX X A B) (hx : ∀ k ∈ shFoot S v, ∀ o, ¬ X k o) : ShIAt B S v ps := by
  refine h.keep fun k hk => ?_
  have key : ∃ o, A.heap[k]? = some o ∧ o.isCells = true := by
    unfold shFoot at hk
    rcases List.mem_cons.1 hk with rfl | hk
    · exact ⟨_, h.cells, rfl⟩
    · rcases h.row.2 with ⟨e, _⟩ | ⟨g, cap, cur, e, _, hg, _⟩
      · rw [e] at hk; cases hk
      · rw [e] at hk
        obtain rfl : k = g := by simpa [Value.ownBlock] using hk
        exact ⟨_, hg, rfl⟩
  obtain ⟨o, h1, h2⟩ := key
  exact (hc.cells k o h1 h2 (hx k hk o)).trans h1.symm
theorem allf_any (w : World) (B : Nat) :
    Calls Tryz.prog 45 #[.pointer (some ⟨B, 0, none⟩)] w fun e w' => e = .returned (.func (.func 78) #[] #[.pointer (some ⟨w.heap.size, 0, none⟩)]) ∧ w' = w.alloc (.cells #[.pointer (some ⟨B, 0, none⟩)] 27) := by
  go_enter Tryz.func45, Tryz.ntmps45
  go_wp2
  go_ret
  exact ⟨rfl, rfl⟩
theorem enters_all : ∀ (args : Array Value) (w : World), (callFunc 78 args).run Tryz.prog w = .ok (.enter 78 args) w := enters_of Tryz.func78 (by kernel_rfl) rfl
set_option maxHeartbeats 16000000 in
theorem all_stops (n : Nat) (hn : 6 ≤ n) (w : World) (B : Nat) (F : List Nat) (st : St) (h : StkAtY Y w B F st) (C1 : Nat) (hC1 : w.heap[C1]? = some (.cells #[.pointer (some ⟨B, 0, none⟩)] 27 (0, 0)))
    (X : Nat → Obj → Prop) (hF : ∀ b ∈ F, ∀ o, ¬ X b o) (hXP : ∀ b c f, ¬ X b (.cells c 185 f)) (hXQ : ∀ b c f, ¬ X b (.cells c 180 f)) (hXS : ∀ b c f, ¬ X b (.cells c 9 f)) (hXY : ∀ b c f, ¬ X b (.cells c 46 f)) :
    StopsO n Tryz.prog 78 #[.pointer (some ⟨C1, 0, none⟩)] encPk X (fun ys => ys = st.all) (fun pre => pre <+: st.all) w := by
  intro l J Jx W hW hJ hJx hY h0
  obtain ⟨N, vN, es, hFe, hi⟩ := h
  have hall := outE_all hi
  obtain ⟨W1, hW1, hb1, hx1, y1, y2⟩ := one_block W (.func (.yield l) #[] #[]) 46
  obtain ⟨By, hBy⟩ : ∃ b, W.heap.size = b := ⟨_, rfl⟩
  rw [hBy] at hx1
  have hi1 := (hi.keep hW.size hW.block).keep hb1.size hb1.block
  have hc1 := (hb1.block _ (Nat.lt_of_lt_of_le (lt_of_heap hC1) hW.size)).trans ((hW.block _ (lt_of_heap hC1)).trans hC1)
  have hJ1 : J [] W1 := own_below hJ h0 hb1
  have hle : (ptrs es).length ≤ 1000 := by unfold ptrs; rw [List.length_map]; have := hi1.many.1; have := hi1.few; omega
  have hA := fun V (hV : Below W1.heap.size W1 V) => allS_any V N vN (ptrs es) (hi1.names.below hV) (by omega)
  have hEI := fun V (hV : CellsX X W1 V) e (he : e ∈ es) => allI_any V e.S e.v e.rows (((hi1.each e he).1).keepX hV (fun k hk o => hF k (by rw [hFe]; exact foot_mem he hk) o)) (by have := hi1.many.2 e he; have := hi1.few; omega)
  have hES := fun e (he : e ∈ es) => (show WidK 10 e.rows ∧ (∀ p ∈ e.rows, Shp p.2) ∧ e.rows.length ≤ 1000000 ∧ ∀ p ∈ e.rows, 0 ≤ p.1 ∧ p.1 < 1000000000 from by
    obtain ⟨hs, hr⟩ := hi1.each e he
    have hT : (e.name, e.L) ∈ tabOf es := List.mem_map.2 ⟨e, he, rfl⟩
    have hm := hi1.many.2 e he
    have hf := hi1.few
    refine ⟨hs.wid, (fun p hp => by obtain ⟨en, _, hv⟩ := rows_mem hr (k := p.1) (l := p.2) hp; exact hv.shp), by omega, fun p hp => ?_⟩
    have hk : p.1 ∈ e.L.map Prod.fst := by
      rw [← rowsL_keys hr]
      exact List.mem_map.2 ⟨p, hp, rfl⟩
    obtain ⟨x, hx, hxp⟩ := List.mem_map.1 hk
    have := (hi1.tab.iff e.name x.1 x.2).1 ⟨e.L, hT, hx⟩
    rw [hxp] at this
    exact ⟨this.1, this.2.1⟩)
  have hsp : ∀ p ∈ ptrs es, ∃ s, p.2 = [.pointer (some ⟨s, 0, none⟩)] := fun p hp => by
    obtain ⟨e, _, rfl⟩ := List.mem_map.1 hp
    exact ⟨e.S, rfl⟩
  have hwid := hi1.names.wid
  have k0 := cell_of_heap hc1 0
  have k1 := cell_of_heap hi1.cells 0
  have HA := Lib.hid hA; have HEI := Lib.hid hEI; have HES := Lib.hid hES; have HX1 := Lib.hid hx1; have HJ1 := Lib.hid hJ1; have HSP := Lib.hid hsp; have HWID := Lib.hid hwid; have HLE := Lib.hid hle
  have HJ := Lib.hid hJ; have HJX := Lib.hid hJx; have HY := Lib.hid hY; have HXP := Lib.hid hXP; have HXQ := Lib.hid hXQ; have HXS := Lib.hid hXS; have HXY := Lib.hid hXY; have HALL := Lib.hid hall
  have HSZ := Lib.hid (show w.heap.size ≤ By ∧ W.heap.size = By ∧ W1.heap.size = By + 1 from by have := hW.size; omega)
  clear h0 hFe hi hC1 hi1 hc1 hJ1 hA hEI hES hJ hJx hY hXP hXQ hXS hXY hF hb1 hx1 y1 y2 hW hall hsp hwid hle
  refine callsIn_wide.2 (calls_of_wp_marks Tryz.func78 rfl ?_)
  simp only [Tryz.ntmps78, List.size_toArray, List.length_cons, List.length_nil, Nat.reduceAdd, Nat.reduceSub, Array.replicate_succ, Array.replicate_zero, List.push_toArray, List.append_toArray, List.nil_append, List.cons_append]
  go_wp2_with fail
  refine (HA.out _ (Below.refl _ _)).mono ?_
  rintro e w4 ⟨C, a', c', rfl, o1, o2, o3, o5⟩
  have hz14 := o5.size
  have hJ4 : J [] w4 := own_below HJ.out HJ1.out o5
  have hx4 := (o5.block _ (lt_of_heap HX1.out)).trans HX1.out
  have hsz := HSZ.out
  have hst := (overS_stops 5 C c' a' (ptrs es) w4 X (by omega) (by have := HLE.out; omega) HWID.out HSP.out o1 _ o2 HXQ.out).toE
  have HST := Lib.hid hst; have HX4 := Lib.hid hx4; have HJ4 := Lib.hid hJ4; have HW4 := Lib.hid (show W.heap.size ≤ w4.heap.size ∧ By < w4.heap.size ∧ W1.heap.size ≤ w4.heap.size from by omega)
  have HC14 := Lib.hid ((CellsX.refl X W1).below o5)
  clear o1 o2 o3 o5 hz14 hJ4 hx4 hsz hst k0 k1
  go_wp2_with fail
  refine (wpIn_wide (n := 6)).1 ?_
  refine range_wideE (n := 6) (by omega) (gf := 152) (lb := #[.pointer (some ⟨C, 0, none⟩)]) rfl enters_overS HST.out (Below.refl _ _) (fun _ => rfl)
    (fun pre V => J (outE (es.take pre.length)) V ∧ CellsX X w4 V) (fun c pre V => c = .ret ∧ ∃ ys, ys <+: st.all ∧ Jx ys V)
    (fun s P Q row hs hg hr => ⟨HJ.out _ P Q row hs.1 hg (fun k e => ⟨Nat.le_trans HW4.out.1 (hr k e).1, (hr k e).2⟩), cellsX_own (Nat.le_refl _) s P Q row hs.2 hg hr⟩)
    (fun c s P Q row hs hg hr => ⟨hs.1, by obtain ⟨ys, h1, h2⟩ := hs.2; exact ⟨ys, h1, HJX.out _ P Q row h2 hg (fun k e => ⟨Nat.le_trans HW4.out.1 (hr k e).1, (hr k e).2⟩)⟩⟩)
    ⟨HJ4.out, CellsX.refl _ _⟩ ?round ?done ?stop
  case round =>
    rintro l2 pre x Wr n0 hl2 hn0 - hpre -
    obtain ⟨e0, he0, rfl⟩ := ptrs_at hpre
    obtain ⟨T, -, hT, -, -⟩ := strV_is e0.name
    obtain ⟨k, hk⟩ : ∃ k, k = pre.length := ⟨_, rfl⟩
    rw [← hk] at he0
    have hem := List.mem_of_getElem? he0
    obtain ⟨r1, r2, r3, r4⟩ := HES.out e0 hem
    have HE0 := Lib.hid he0; have HEM := Lib.hid hem; have HT := Lib.hid hT; have HK := Lib.hid hk; have R1 := Lib.hid r1; have R2 := Lib.hid r2; have R4 := Lib.hid r4
    unfold encS ptrV
    dsimp only [List.headD]
    rw [hT]
    clear he0 hem hT r1 r2 r4 hpre hk
    gi_wp2
    refine ⟨(Below.refl _ _).alloc (Nat.le_refl _) _, ?_⟩
    rintro W2 ⟨hj, hcx⟩ hsame hl3
    have hnm := hsame.heap (heap_alloc_new Wr (.cells #[.string T] 9))
    obtain ⟨Bn, hBn⟩ : ∃ b, Wr.heap.size = b := ⟨_, rfl⟩
    rw [hBn] at hnm ⊢
    have hcw : CellsX X W1 W2 := ⟨Nat.le_trans HC14.out.size hcx.size, fun k o hk ho hx => hcx.cells k o (HC14.out.cells k o hk ho hx) ho hx⟩
    have hall := HEI.out W2 hcw e0 HEM.out
    have h1n : 1 ≤ 6 - 1 - 1 := by decide
    have HNM := Lib.hid hnm; have HCX := Lib.hid hcx; have HJr := Lib.hid hj; have HALLI := Lib.hid hall; have HL3 := Lib.hid hl3
    clear hnm hcx hj hall hl3 hsame hcw
    gi_wp2
    refine ⟨trivial, ?_⟩
    refine (CallsIn.inRound l2 ((callsIn_wide (n := 3)).2 HALLI.out)).mono ?_
    rintro e W3 ⟨C3, a3, c3, rfl, o1, o2, o3, o5⟩
    have hst := (overI_stops 3 C3 c3 a3 e0.rows W3 X (by omega) r3 R1.out R2.out o1 _ o2 HXP.out).toE
    have hl4 : ∃ r, W3.heap[l2]? = some (.loop r) := by
      obtain ⟨r, hr⟩ := HL3.out
      exact ⟨r, (o5.block _ (lt_of_heap hr)).trans hr⟩
    have HST3 := Lib.hid hst; have HL4 := Lib.hid hl4; have H23 := Lib.hid o5
    have HJ3 := Lib.hid (own_below HJ.out HJr.out o5); have HNM3 := Lib.hid ((o5.block _ (lt_of_heap HNM.out)).trans HNM.out)
    have HZ3 := Lib.hid (show W.heap.size ≤ W3.heap.size ∧ w4.heap.size ≤ W3.heap.size ∧ Bn < W3.heap.size from by have h1 := lt_of_heap HNM.out; have h2 := HCX.out.size; have h3 := HW4.out; have h4 := o5.size; omega)
    have HRND3 := Lib.hid (RndX.of_below (X := X) (n := w4.heap.size) o5)
    have HCX3 := Lib.hid (HCX.out.below o5)
    clear o1 o2 o3 o5 hst hl4
    gi_wp2
    refine range_inE (n := 4) HL4.out (by omega) (gf := 153) (lb := #[.pointer (some ⟨C3, 0, none⟩)]) rfl enters_overI HST3.out (Below.refl _ _) (fun _ => rfl)
      (fun pre2 V => J (outE (es.take k) ++ keysE e0.name (pre2.map Prod.fst)) V ∧ RndX X w4.heap.size W2 V ∧ CellsX X w4 V ∧ V.heap[Bn]? = some (.cells #[.string T] 9 (0, 0))) (fun c pre2 V => c = .ret ∧ RndX X w4.heap.size W2 V ∧ ∃ ys, ys <+: st.all ∧ Jx ys V)
      (fun s P Q row hs hg hr => ⟨HJ.out _ P Q row hs.1 hg (fun k e => ⟨Nat.le_trans HZ3.out.1 (hr k e).1, (hr k e).2⟩), rndX_own (H23.out.size) s P Q row hs.2.1 hg hr, cellsX_own HZ3.out.2.1 s P Q row hs.2.2.1 hg hr, own_block (fun _ => .cells #[.string T] 9 (0, 0)) HZ3.out.2.2 s P Q row hs.2.2.2 hg hr⟩)
      (fun c s P Q row hs hg hr => ⟨hs.1, rndX_own (H23.out.size) s P Q row hs.2.1 hg hr, by obtain ⟨ys, h1, h2⟩ := hs.2.2; exact ⟨ys, h1, HJX.out _ P Q row h2 hg (fun k e => ⟨Nat.le_trans HZ3.out.1 (hr k e).1, (hr k e).2⟩)⟩⟩)
      ⟨by show J (outE (es.take k) ++ []) W3; rw [List.append_nil]; exact HK.out ▸ HJ3.out, HRND3.out, HCX3.out, HNM3.out⟩ ?round2 ?done2 ?stop2
    case round2 =>
      rintro l5 pre2 y Wq n5 hl5 hn5 - hpre2 -
      have hy : y ∈ e0.rows := by
        obtain ⟨r, hr⟩ := hpre2
        rw [← hr]; simp
      have hkb := R4.out y hy
      have hpr : outE (es.take k) ++ keysE e0.name ((pre2 ++ [y]).map Prod.fst) <+: st.all := by
        rw [← HALL.out]
        refine out_pre HE0.out ?_
        obtain ⟨r, hr⟩ := hpre2
        exact ⟨r.map Prod.fst, by rw [← hr]; simp⟩
      have HPR := Lib.hid hpr
      unfold encP
      clear hpre2 hy hpr
      gi_wp2
      refine ⟨Below.refl _ _, ?_⟩
      rintro W5 ⟨hj5, hr5, hcx5, hnm5⟩ hsame5 -
      obtain ⟨kk, vals⟩ := y
      dsimp only at hkb
      have hof := vof_any W5 kk hkb.1 hkb.2
      obtain ⟨u, hu⟩ : ∃ u, u = verOf kk := ⟨_, rfl⟩
      have hout : outE (es.take k) ++ keysE e0.name ((pre2 ++ [(kk, vals)]).map Prod.fst) = (outE (es.take k) ++ keysE e0.name (pre2.map Prod.fst)) ++ [(e0.name, u)] := by
        rw [List.map_append, keysE_app, ← List.append_assoc, hu]
        rfl
      rw [← hu] at hof
      obtain ⟨x, yv, z⟩ := u
      dsimp only at hof
      have h2n : 1 ≤ 4 - 1 - 1 := by decide
      have HOF := Lib.hid hof; have HOUT := Lib.hid hout; have HJ5 := Lib.hid hj5; have HR5 := Lib.hid hr5; have HCX5 := Lib.hid hcx5; have HNM5 := Lib.hid hnm5
      clear hkb hu hof hout hj5 hr5 hcx5 hnm5 hsame5
      gi_wp2
      refine ⟨trivial, ?_⟩
      refine (CallsIn.inRound l5 ((callsIn_wide (n := 1)).2 HOF.out)).mono ?_
      rintro e W6 ⟨rfl, h6⟩
      obtain ⟨W7, hW7, hb7, hx7, y1, y2⟩ := any_block W6 #[.int .i64 x, .int .i64 yv, .int .i64 z] 39
      have h57 := h6.trans (hb7.mono h6.size)
      have hcx7 := HCX5.out.below h57
      have hJ7 : J (outE (es.take k) ++ keysE e0.name (pre2.map Prod.fst)) W7 := own_below HJ.out HJ5.out h57
      have hy7 := hcx7.cells By _ HX4.out rfl (HXY.out _ _ _)
      have hn7 := (h57.block _ (lt_of_heap HNM5.out)).trans HNM5.out
      have hpr := HPR.out
      rw [HOUT.out] at hpr
      have b0 := cell_of_heap hy7 0
      have q0 := cell_of_heap hn7 0
      have v0 := cell_of_heap hx7 0
      have v1 := cell_of_heap hx7 1
      have v2 := cell_of_heap hx7 2
      obtain ⟨fn, tmps, assign, body, hyl, hR⟩ := yield_anyDepth rfl 1 (HY.out _ _ _ hJ7 hpr)
      unfold encPk at hyl
      rw [HT.out] at hyl
      dsimp only at hyl
      have HRND := Lib.hid (show RoundIn (Fence.wide.inRound l5) 1 _ l fn tmps assign body _ _ from hR)
      have HR7 := Lib.hid (HR5.out.trans (RndX.of_below h57)); have HCX7 := Lib.hid hcx7; have HN7 := Lib.hid hn7; have HP7 := Lib.hid hpr
      have HSW := Lib.hid (show W5.heap.size ≤ W7.heap.size from h57.size); have H57 := Lib.hid h57
      clear h6 hb7 hx7 y1 y2 h57 hcx7 hJ7 hy7 hn7 hpr hR
      gi_wp2
      refine HRND.out.mono ?_
      rintro e W8 (⟨rfl, hJ8, hk8⟩ | ⟨rfl, hJ8, hk8⟩)
      · have hn8 := hk8.cells Bn _ HN7.out rfl (HXS.out _ _ _)
        have HRA := Lib.hid ((RndX.of_below (X := X) (n := W3.heap.size) H57.out).trans (hk8.mono HZ3.out.1))
        have HR8 := Lib.hid (HR7.out.trans (hk8.mono HW4.out.1)); have HCX8 := Lib.hid (HCX7.out.rnd hk8); have HJ8 := Lib.hid hJ8; have HN8 := Lib.hid hn8
        clear hJ8 hk8 hn8
        gi_wp2
        exact ⟨HRA.out, by rw [HOUT.out]; exact HJ8.out, HR8.out, HCX8.out, HN8.out⟩
      · have HRA := Lib.hid ((RndX.of_below (X := X) (n := W3.heap.size) H57.out).trans (hk8.mono HZ3.out.1))
        have HR8 := Lib.hid (HR7.out.trans (hk8.mono HW4.out.1)); have HJ8 := Lib.hid hJ8
        clear hJ8 hk8
        gi_wp2
        exact ⟨HRA.out, rfl, HR8.out, _, HP7.out, HJ8.out⟩
    case done2 =>
      rintro ys V rfl ⟨hj, hr, hcx, -⟩
      refine ⟨hr, ?_, hcx⟩
      rw [List.length_append, List.length_singleton, ← HK.out, out_next HE0.out]
      exact hj
    case stop2 =>
      rintro c2 pre2 V hp ⟨rfl, hr, ys, h1, h2⟩
      have HR := Lib.hid hr; have H1 := Lib.hid h1; have H2 := Lib.hid h2
      clear hr h1 h2 hp
      gi_wp2
      exact ⟨HR.out, rfl, ys, H1.out, H2.out⟩
  case done =>
    rintro D ys V hD rfl ⟨hj, -⟩ hK
    have HJV := Lib.hid (HJ.out.putObj (.deferred none) hj (Nat.le_trans HW4.out.1 hD) hK rfl); have HK := Lib.hid hK
    clear hj hK
    refine marks_end1 (v := .tuple #[]) rfl HK.out (results_none rfl _ _ _) ⟨⟨_, rfl⟩, .inl ⟨_, rfl, ?_⟩⟩
    have h1 := HJV.out
    rw [List.take_of_length_le (by unfold ptrs; rw [List.length_map]; exact Nat.le_refl _), HALL.out] at h1
    exact h1
  case stop =>
    rintro D c9 pre V hD hp ⟨rfl, ys, h1, h2⟩ hK
    have HJV := Lib.hid (HJX.out.putObj (.deferred none) h2 (Nat.le_trans HW4.out.1 hD) hK rfl); have HK := Lib.hid hK; have H1 := Lib.hid h1
    clear h1 h2 hK hp
    refine wpIn_wide.2 ?_
    go_wp2_with fail
    exact marks_ret1 (v := .tuple #[]) rfl HK.out (results_none rfl _ _ _) ⟨⟨_, rfl⟩, .inr ⟨_, H1.out, HJV.out⟩⟩
end Go.Proofs.YtaagkndhgicifaaGreat
