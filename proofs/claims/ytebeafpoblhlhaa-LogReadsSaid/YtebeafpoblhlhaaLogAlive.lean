/- DERIVED. The walk of alive of layer 20. -/
import Derived.Test.YtebeafpoblhlhaaLogAdd
import Derived.Lib.ConvBytes
namespace Go.Proofs.Ytebeafpoblhlhaa
open Go.RowKit
set_option linter.unusedVariables false

/-- '[]byte(s)'. -/
theorem conv_bytes (w : World) (l : List UInt8) : ∃ c W, (convert 9 22 (.string ⟨l.toArray⟩)).run Try.prog w = .ok (.slice (some ⟨w.heap.size, 0, none⟩) l.length c) W ∧ Rd W (.slice (some ⟨w.heap.size, 0, none⟩) l.length c) (bytesV l) ∧ Below w.heap.size w W := by
  have h := Lib.run_convert_string_bytes (P := Try.prog) w 9 22 5 ⟨l.toArray⟩ Try.underlying9 Try.underlying22 Try.underlying5
  rw [str_size] at h
  refine ⟨_, _, h, ?_, ⟨rfl, rfl, rfl, by rw [Lib.bytesWorld_size]; omega, fun k hk => Lib.bytesWorld_at_old w _ _ k hk⟩⟩
  refine ⟨_, _, by rw [bytesV_length], by rw [bytesV_length]; exact grownCap_ge w _ 0 _, fun h => (Option.some_ne_none _ h).elim, fun ad e j u hj => ?_⟩
  obtain rfl := Option.some.inj e
  rw [Addr.add_lit, Nat.zero_add]
  have hjl : j < l.length := by
    have := (List.getElem?_eq_some_iff.1 hj).1
    simpa [bytesV] using this
  rw [Lib.bytesWorld_cell w _ _ j (by rw [str_size]; exact hjl)]
  simp only [bytesV, List.getElem?_map, List.getElem?_eq_getElem hjl, Option.map_some] at hj
  rw [← hj]
  simp [List.getD, List.getElem?_eq_getElem hjl]
set_option maxRecDepth 100000 in
set_option maxHeartbeats 1000000 in
theorem logalive_any (w : World) :
    Calls Try.prog 26 #[] w fun e w' => e = .returned (.bool true) ∧ Below w.heap.size w w' := by
  go_enter Try.func26, Try.ntmps26
  go_wp2_with fail
  refine (own_new w _ [] (Rd.nil w) (by decide)).mono ?_
  rintro e w1 ⟨R, rfl, o1⟩
  have O1 := Lib.hid o1; clear o1
  go_wp2_with fail
  refine (open_any O1.out rfl rfl (by decide) [] [] [] rfl rfl (by decide) (by decide) (by simp) (newRib []) rfl).mono ?_
  rintro e w2 ⟨L, a, c, rfl, o2, _⟩
  have O2 := Lib.hid o2; clear o2
  go_wp2_with fail
  refine (append_any O2.out rfl rfl (by decide) [104, 105] (by decide) (by decide) (by decide)).mono ?_
  rintro e w3 ⟨rfl, o3⟩
  have O3 := Lib.hid o3; clear o3
  go_wp2_with fail
  refine (own_acts O3.out.own).mono ?_
  rintro e w' ⟨rfl, rfl⟩
  go_wp2_with fail
  refine (own_read_to O3.out.own rfl [0, 0, 2, 104, 105] rfl).mono ?_
  rintro e w4 ⟨a4, c4, rfl, hw4, o4, b4⟩
  have O4 := Lib.hid (O3.out.below b4)
  have hcv : (convert 22 9 (.slice a4 5 c4)).run Try.prog w4 = .ok (.string ⟨#[0, 0, 2, 104, 105]⟩) w4 := conv_at (l := [0, 0, 2, 104, 105]) (Rd.of_owns hw4)
  clear o4 hw4
  go_wp2_with fail
  refine (count_any _ L _ O4.out.cell).mono ?_
  rintro e w' ⟨rfl, rfl⟩
  go_wp2
  go_ret
  obtain ⟨_, _, _, _, hb, _⟩ := O4.out.own
  exact ⟨rfl, hb⟩
end Go.Proofs.Ytebeafpoblhlhaa
