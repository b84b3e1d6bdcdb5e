/- DERIVED. The walk of RibbonKeeps. -/
import Derived.Test.YtebeafpoblhlhaaRibSafe
namespace Go.Proofs.Ytebeafpoblhlhaa
open Go.RowKit
set_option linter.unusedVariables false

/-- A row of n bytes in block M (and room behind it), whatever they are. -/
def RowB (w : World) (M n : Nat) : Prop := ∃ C : Array Value, w.heap[M]? = some (.cells C 5 (0, 0)) ∧ ∀ j, j < n → ∃ x : UInt8, C[j]? = some (.int .u8 x.toNat)
theorem RowB.at {w : World} {M n j : Nat} (h : RowB w M n) (hj : j < n) : ∃ x : UInt8, w.cell? ⟨M, j, none⟩ = some (.int .u8 x.toNat) := by
  obtain ⟨C, h1, h2⟩ := h
  obtain ⟨x, hx⟩ := h2 j hj
  exact ⟨x, by rw [cell_of_heap h1, hx]⟩
theorem RowB.free {w : World} {M n : Nat} (h : RowB w M n) (j : Nat) : w.frozen? ⟨M, j, none⟩ = false := by
  obtain ⟨C, h1, _⟩ := h
  exact frozen_of_heap h1 j
theorem RowB.set {w : World} {M n k : Nat} (h : RowB w M n) (x : UInt8) : RowB (w.setCell ⟨M, k, none⟩ (.int .u8 x.toNat)) M n := by
  obtain ⟨C, h1, h2⟩ := h
  refine ⟨_, heap_setCell_here _ h1, fun j hj => ?_⟩
  obtain ⟨y, hy⟩ := h2 j hj
  rw [Array.getElem?_setIfInBounds]
  split
  · rename_i e; subst e
    have : k < C.size := (Array.getElem?_eq_some_iff.1 hy).1
    rw [if_pos this]; exact ⟨x, rfl⟩
  · exact ⟨y, hy⟩
theorem RowB.of_owns {w : World} {base n M c : Nat} {l : List UInt8} (h : w.ownsRow base 5 1 (.slice (some ⟨M, 0, none⟩) n c) n (bytesV l)) (hn : l.length = n) : RowB w M n := by
  rcases h.2 with ⟨e, _⟩ | ⟨g, cap, cur, e, _, hg, hle, _, hsz, ht⟩
  · cases e
  · obtain ⟨e1, _, _⟩ := Value.slice.inj e
    obtain rfl : M = g := by have := Option.some.inj e1; simpa using this
    refine ⟨cur, hg, fun j hj => ?_⟩
    have hj' : (bytesV l)[j]? = some (.int .u8 (l[j]'(by omega)).toNat) := by simp [bytesV, List.getElem?_eq_getElem (show j < l.length by omega)]
    rw [Nat.mul_one] at ht
    rw [← ht, List.getElem?_take] at hj'
    rw [if_pos hj] at hj'
    exact ⟨_, by simpa using hj'⟩
/-- The same, if there is anything: the block lies from B on. -/
def RowO (w : World) (B : Nat) (a : Option Addr) (n : Nat) : Prop := 0 < n → ∃ X, a = some ⟨X, 0, none⟩ ∧ B ≤ X ∧ RowB w X n
theorem RowO.of_owns {w : World} {base n c : Nat} {a : Option Addr} {l : List UInt8} (h : w.ownsRow base 5 1 (.slice a n c) n (bytesV l)) (hn : l.length = n) : RowO w base a n := by
  intro h0
  obtain ⟨X, rfl, h1, _⟩ := owns_some h (fun e => by have := (Value.slice.inj e).2.1; omega)
  exact ⟨X, rfl, h1, RowB.of_owns h hn⟩
theorem bump (x : UInt8) : IntKind.u8.wrap ((x.toNat : Int) + 1) = ((x + 1).toNat : Int) := by
  have h : ∀ k : Fin 256, IntKind.u8.wrap (((UInt8.ofNat k.val).toNat : Int) + 1) = ((UInt8.ofNat k.val + 1).toNat : Int) := by decide +kernel
  have := h ⟨x.toNat, x.toNat_lt⟩
  simpa using this

structure KeepsAt (w w6 : World) (M N R O : Nat) (vs vw vo wo : Value) (cm cn : Nat) (a b : List UInt8) : Prop where
  rib : RibAt w6 R vs vw { safe := a, waits := b, off := false, acts := 1, inn := 0, keep := 0 }
  other : RibAt w6 O vo wo (newRib [])
  mine : w6.ownsRow 0 5 1 (.slice (some ⟨M, 0, none⟩) a.length cm) a.length (bytesV a)
  more : w6.ownsRow 0 5 1 (.slice (some ⟨N, 0, none⟩) b.length cn) b.length (bytesV b)
  fM : ∀ k ∈ ribFoot R vs vw, k ≠ M ∧ k ≠ N
  gM : ∀ k ∈ ribFoot O vo wo, k ≠ M ∧ k ≠ N
  ne : M ≠ N
  below : Below w.heap.size w w6
  hM : w.heap.size ≤ M
  hN : w.heap.size ≤ N
theorem keeps_at {w w1 w2 w3 w4 w5 w6 : World} {M N R O cm cn : Nat} {vs vw vs6 vw6 vo wo : Value} {a b : List UInt8} {s : RibSt}
    (hM1 : w1.heap.size ≤ M) (hM2 : M < w2.heap.size) (hN1 : w2.heap.size ≤ N) (hN2 : N < w3.heap.size) (hb1 : Below w.heap.size w w1) (hb2 : Below w1.heap.size w1 w2) (hb3 : Below w2.heap.size w2 w3)
    (hm3 : w3.ownsRow 0 5 1 (.slice (some ⟨M, 0, none⟩) a.length cm) a.length (bytesV a)) (hn3 : w3.ownsRow 0 5 1 (.slice (some ⟨N, 0, none⟩) b.length cn) b.length (bytesV b))
    (r4 : RibAt w4 R vs vw s) (b4 : Below w3.heap.size w3 w4) (f4 : ∀ k ∈ ribFoot R vs vw, w3.heap.size ≤ k) (r5 : RibAt w5 O vo wo (newRib [])) (b5 : Below w4.heap.size w4 w5) (f5 : ∀ k ∈ ribFoot O vo wo, w4.heap.size ≤ k)
    (r6 : RibAt w6 R vs6 vw6 { safe := a, waits := b, off := false, acts := 1, inn := 0, keep := 0 }) (c6 : Ch (ribFoot R vs vw) w5 w6) (f6 : ∀ k ∈ ribFoot R vs6 vw6, k ∈ ribFoot R vs vw ∨ w5.heap.size ≤ k) (hs2 : w1.heap.size ≤ w2.heap.size) (hs3 : w2.heap.size ≤ w3.heap.size) :
    KeepsAt w w6 M N R O vs6 vw6 vo wo cm cn a b := by
  have hb5 : Below w3.heap.size w3 w5 := b4.trans (b5.mono b4.size)
  have hs4 := b4.size; have hs5 := b5.size
  have hfix : ∀ g, g < w3.heap.size → w6.heap[g]? = w3.heap[g]? := fun g hg => (c6.block g (by omega) (fun hk => by have := f4 g hk; omega)).trans (hb5.block g hg)
  refine ⟨r6, r5.keep (fun k hk => c6.block k (r5.foot_lt k hk) (fun hF => by have := r4.foot_lt k hF; have := f5 k hk; omega)), ownsRow_keep hm3 (fun g hg => hfix g (by obtain rfl : M = g := Option.some.inj hg; omega)), ownsRow_keep hn3 (fun g hg => hfix g (by obtain rfl : N = g := Option.some.inj hg; omega)), ?_, ?_, by omega, ?_, ?_, ?_⟩
  · intro k hk
    rcases f6 k hk with h | h
    · have := f4 k h; omega
    · omega
  · intro k hk
    have := f5 k hk; omega
  · have h1 : Below w.heap.size w w5 := ((hb1.trans (hb2.mono hb1.size)).trans (hb3.mono (Nat.le_trans hb1.size hs2))).trans (hb5.mono (Nat.le_trans hb1.size (Nat.le_trans hs2 hs3)))
    exact h1.trans (below_of_ch c6 (fun k hk => by have := f4 k hk; have := hb1.size; omega) h1.size)
  · have := hb1.size; omega
  · have := hb1.size; omega
theorem RibAt.only {w w' : World} {R M : Nat} {vs vw : Value} {s : RibSt} (h : RibAt w R vs vw s) (hO : Only M w w') (hf : ∀ k ∈ ribFoot R vs vw, k ≠ M) : RibAt w' R vs vw s := h.keep (fun k hk => hO.block k (hf k hk))
theorem below_only {B : Nat} {w w1 w2 : World} {M : Nat} (h : Below B w w1) (hO : Only M w1 w2) (hM : B ≤ M) : Below B w w2 :=
  h.trans ⟨hO.os, hO.tape, hO.output, by rw [hO.size]; exact Nat.le_refl _, fun k hk => hO.block k (by omega)⟩
theorem keeps_M {w w6 w7 : World} {M N R O : Nat} {vs vw vo wo : Value} {cm cn : Nat} {a b : List UInt8} (h : KeepsAt w w6 M N R O vs vw vo wo cm cn a b) (hO : Only M w6 w7) :
    RibAt w7 R vs vw { safe := a, waits := b, off := false, acts := 1, inn := 0, keep := 0 } ∧ RibAt w7 O vo wo (newRib []) ∧ w7.ownsRow 0 5 1 (.slice (some ⟨N, 0, none⟩) b.length cn) b.length (bytesV b) ∧ Below w.heap.size w w7 :=
  ⟨h.rib.only hO (fun k hk => (h.fM k hk).1), h.other.only hO (fun k hk => (h.gM k hk).1), ownsRow_keep h.more (fun g hg => hO.block g (by obtain rfl : N = g := Option.some.inj hg; exact fun e => h.ne e.symm)), below_only h.below hO h.hM⟩
set_option maxHeartbeats 4000000 in
theorem keeps_any (w : World) (aa : Option Addr) (ca : Nat) (ab : Option Addr) (cb : Nat) (a b : List UInt8) (ra : Rd w (.slice aa a.length ca) (bytesV a)) (rb : Rd w (.slice ab b.length cb) (bytesV b)) (hma : a.length ≤ 140737488355328) (hmb : b.length ≤ 140737488355328) :
    Calls Try.prog 3 #[.slice aa a.length ca, .slice ab b.length cb] w fun e w' => e = .returned (.bool true) ∧ Below w.heap.size w w' := by
  have RA := Lib.hid ra; have RB := Lib.hid rb; clear ra rb
  by_cases hbig : 16384 < a.length + b.length
  · go_enter Try.func3, Try.ntmps3
    go_wp2_with fail
    refine (alive_any _).mono ?_
    rintro e w1 ⟨rfl, hb1⟩
    have HB1 := Lib.hid hb1; clear hb1
    go_wp2
    go_ret
    exact ⟨rfl, HB1.out⟩
  · have hsm : a.length + b.length ≤ 16384 := by omega
    clear hma hmb
    go_enter Try.func3, Try.ntmps3
    go_wp2_with fail
    refine (alive_any _).mono ?_
    rintro e w1 ⟨rfl, hb1⟩
    have HRA := Lib.hid (RA.out.below hb1); have HRB := Lib.hid (RB.out.below hb1)
    have HB1 := Lib.hid hb1; clear hb1
    go_wp2_with (first | (at_builtin; refine wpList_copy_bytes0 rfl (.tmp 26) (.tmp 27) rfl w1 aa ca a rfl rfl HRA.out (by omega) ?_; intro M cm w2 hown2 hM1 hM2 hb2; have HRB2 := Lib.hid (HRB.out.below hb2); have HW2 := Lib.hid hown2; have HB2 := Lib.hid hb2; have hs2 := hb2.size; clear hown2 hb2) | (at_builtin; refine wpList_copy_bytes0 rfl (.tmp 29) (.tmp 30) rfl w2 ab cb b rfl rfl HRB2.out (by omega) ?_; intro N cn w3 hown3 hN1 hN2 hb3; have HW3 := Lib.hid hown3; have HB3 := Lib.hid hb3; have hs3 := hb3.size; clear hown3 hb3) | fail)
    have hmine3 : w3.ownsRow 0 5 1 (.slice (some ⟨M, 0, none⟩) a.length cm) a.length (bytesV a) := ownsRow_keep (ownsRow_base HW2.out) (fun g hg => HB3.out.block g (by obtain rfl : M = g := Option.some.inj hg; exact hM2))
    have hmore3 := ownsRow_base HW3.out
    have HM3 := Lib.hid hmine3; have HN3 := Lib.hid hmore3; clear hmine3 hmore3
    refine (new_any w3 _ a (Rd.of_owns HM3.out) (by omega)).mono ?_
    rintro e w4 ⟨R, vs, vw, rfl, r4, b4, f4⟩
    rw [new_small a (by omega)] at r4
    have HR4 := Lib.hid r4; have HB4 := Lib.hid b4; have HF4 := Lib.hid f4; clear r4 b4 f4
    go_wp2_with fail
    refine (new_any w4 _ [] (Rd.nil _) (by decide)).mono ?_
    rintro e w5 ⟨O, vo, wo, rfl, r5, b5, f5⟩
    have HO5 := Lib.hid r5; have HB5 := Lib.hid b5; have HF5 := Lib.hid f5
    have HR5 := Lib.hid (HR4.out.keep (fun k hk => b5.block k (HR4.out.foot_lt k hk)))
    have HN5 := Lib.hid ((Rd.of_owns HN3.out).below (HB4.out.trans (b5.mono HB4.out.size))); clear r5 b5 f5
    go_wp2_with fail
    have hwr := write_any w5 R vs vw _ HR5.out (by show (0 : Int) < _; omega) _ b HN5.out
    rw [wrote_small a b hsm] at hwr
    refine hwr.mono ?_
    clear hwr
    rintro e w6 ⟨rfl, vs6, vw6, r6, c6, f6⟩
    have hx : KeepsAt w w6 M N R O vs6 vw6 vo wo cm cn a b := keeps_at hM1 hM2 hN1 hN2 HB1.out HB2.out HB3.out HM3.out HN3.out HR4.out HB4.out HF4.out HO5.out HB5.out HF5.out r6 c6 f6 hs2 hs3
    have HX := Lib.hid hx
    have hcm := conv_at (Rd.of_owns hx.mine)
    have hcn := conv_at (Rd.of_owns hx.more)
    have hca := conv_at (RA.out.below hx.below)
    have hcb := conv_at (RB.out.below hx.below)
    clear r6 c6 f6 hx hM1 hM2 hN1 hN2 hs2 hs3
    go_wp2_with fail
    clear hcm hcn hca hcb
    go_loopw [55] (fun i wr => ∃ k : Nat, k ≤ a.length ∧ i = .int .i64 k ∧ Hid (RowB wr M a.length) ∧ Hid (Only M w6 wr)) (fun i _ => a.length - (intOf i).toNat)
    case atStart => exact ⟨0, Nat.zero_le _, rfl, RowB.of_owns HX.out.mine rfl, Only.refl _ _⟩
    case round =>
      obtain ⟨k, hk, rfl, hrow, honly⟩ := hrel
      by_cases hlt : k < a.length
      · obtain ⟨x, hcell⟩ := hrow.out.at hlt
        have hfz := hrow.out.free k
        have hbp := bump x
        have hcp := owns_cap HX.out.mine
        have HROW := Lib.hid (hrow.out.set (k := k) (x + 1))
        go_wp2
        go_roundw
        case rel => exact ⟨k + 1, by omega, by go_num, HROW.out, honly.out.setCell⟩
        case measure => simp [intOf]; omega
      · obtain rfl : k = a.length := by omega
        clear hrow hlt
        obtain ⟨w7, rfl⟩ : ∃ w7 : World, w7 = wr := ⟨_, rfl⟩
        have HK7 := Lib.hid (keeps_M HX.out honly.out)
        clear honly
        go_wp2_with fail
        go_loopw [67] (fun i wq => ∃ k : Nat, k ≤ b.length ∧ i = .int .i64 k ∧ Hid (RowB wq N b.length) ∧ Hid (Only N w7 wq)) (fun i _ => b.length - (intOf i).toNat)
        case atStart => exact ⟨0, Nat.zero_le _, rfl, RowB.of_owns HK7.out.2.2.1 rfl, Only.refl _ _⟩
        case round =>
          obtain ⟨k, hk, rfl, hrow, honly⟩ := hrel
          by_cases hlt : k < b.length
          · obtain ⟨x, hcell⟩ := hrow.out.at hlt
            have hfz := hrow.out.free k
            have hbp := bump x
            have hcp := owns_cap HX.out.more
            have HROW := Lib.hid (hrow.out.set (k := k) (x + 1))
            go_wp2
            go_roundw
            case rel => exact ⟨k + 1, by omega, by go_num, HROW.out, honly.out.setCell⟩
            case measure => simp [intOf]; omega
          · obtain rfl : k = b.length := by omega
            clear hrow hlt
            obtain ⟨w8, rfl⟩ : ∃ w8 : World, w8 = wr := ⟨_, rfl⟩
            have HR8 := Lib.hid (HK7.out.1.only honly.out (fun k hk => (HX.out.fM k hk).2))
            have HO8 := Lib.hid (HK7.out.2.1.only honly.out (fun k hk => (HX.out.gM k hk).2))
            have HB8 := Lib.hid (below_only HK7.out.2.2.2 honly.out HX.out.hN)
            clear honly
            go_wp2_with fail
            refine (read_any w8 R _ _ _ HR8.out rfl).mono ?_
            rintro e w9 ⟨ax, cx, rfl, hw9, hb9⟩
            have hcpx := owns_cap hw9
            have HW9 := Lib.hid hw9; have HB9 := Lib.hid hb9; clear hw9 hb9
            go_wp2_with fail
            go_loopw [84] (fun i wq => ∃ k : Nat, k ≤ a.length + b.length ∧ i = .int .i64 k ∧ Hid (RowO wq w8.heap.size ax (a.length + b.length)) ∧ Hid (Below w8.heap.size w8 wq)) (fun i _ => (a.length + b.length) - (intOf i).toNat)
            case atStart => exact ⟨0, Nat.zero_le _, rfl, RowO.of_owns HW9.out (by rw [List.length_append]), HB9.out⟩
            case round =>
              obtain ⟨k, hk, rfl, hrow, honly⟩ := hrel
              by_cases hlt : k < a.length + b.length
              · obtain ⟨X, rfl, hX, hrow⟩ := hrow.out (by omega)
                have HROW0 := Lib.hid hrow
                obtain ⟨x, hcell⟩ := hrow.at hlt
                have hfz := hrow.free k
                have HROW := Lib.hid (hrow.set (k := k) 0)
                clear hrow
                go_wp2
                go_roundw
                case rel => exact ⟨k + 1, by omega, by go_num, fun _ => ⟨X, rfl, hX, HROW.out⟩, honly.out.setCell hX _⟩
                case measure => simp [intOf]; omega
              · obtain rfl : k = a.length + b.length := by omega
                clear hrow hlt
                obtain ⟨w10, rfl⟩ : ∃ w10 : World, w10 = wr := ⟨_, rfl⟩
                have HR10 := Lib.hid (HR8.out.keep (fun k hk => honly.out.block k (HR8.out.foot_lt k hk)))
                have HO10 := Lib.hid (HO8.out.keep (fun k hk => honly.out.block k (HO8.out.foot_lt k hk)))
                have HB10 := Lib.hid (HB8.out.trans (honly.out.mono HB8.out.size))
                clear honly
                go_wp2_with fail
                refine (read_any w10 R _ _ _ HR10.out rfl).mono ?_
                rintro e w11 ⟨ay, cy, rfl, hw11, hb11⟩
                have HO11 := Lib.hid (HO10.out.keep (fun k hk => hb11.block k (HO10.out.foot_lt k hk)))
                have HW11 := Lib.hid hw11; have HB11 := Lib.hid hb11; clear hw11 hb11
                go_wp2_with fail
                refine (read_any w11 O _ _ _ HO11.out rfl).mono ?_
                rintro e w12 ⟨az, cz, rfl, hw12, hb12⟩
                have HO12 := Lib.hid (HO11.out.keep (fun k hk => hb12.block k (HO11.out.foot_lt k hk)))
                have hb13 := HB10.out.trans ((HB11.out.trans (hb12.mono HB11.out.size)).mono HB10.out.size)
                have hcy : (convert 22 9 (.slice ay (a.length + b.length) cy)).run Try.prog w12 = .ok (.string ⟨(a ++ b).toArray⟩) w12 := by
                  have := HW11.out
                  rw [← List.length_append] at this ⊢
                  exact conv_at ((Rd.of_owns this).below hb12)
                have hca := conv_at (RA.out.below hb13)
                have hcb := conv_at (RB.out.below hb13)
                have hab := str_append a b
                have HB13 := Lib.hid hb13; clear hw12 hb12 hb13
                go_wp2_with fail
                refine (acts_any w12 O _ _ _ HO12.out).mono ?_
                rintro e w' ⟨rfl, rfl⟩
                go_wp2
                go_ret
                exact ⟨rfl, HB13.out⟩
end Go.Proofs.Ytebeafpoblhlhaa
