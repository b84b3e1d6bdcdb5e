/- DERIVED. Records on a ribbon: how they stand. No program in sight. -/
namespace Go.Proofs.Ytebeafpoblhlhaa

/-- A record as it stands. -/
def headOf (n : Nat) : List UInt8 := [UInt8.ofNat (n / 65536), UInt8.ofNat (n / 256 % 256), UInt8.ofNat (n % 256)]
def frame (s : List UInt8) : List UInt8 := headOf s.length ++ s
def frames (rs : List (List UInt8)) : List UInt8 := (rs.map frame).flatten
theorem frame_length (s : List UInt8) : (frame s).length = 3 + s.length := by simp [frame, headOf]; omega
theorem frames_take (rs : List (List UInt8)) (k : Nat) (r : List UInt8) (h : rs[k]? = some r) : frames (rs.take (k + 1)) = frames (rs.take k) ++ frame r := by
  unfold frames
  rw [List.take_add_one, h]
  simp
theorem frames_split (rs : List (List UInt8)) (k : Nat) (r : List UInt8) (h : rs[k]? = some r) : frames rs = frames (rs.take k) ++ frame r ++ frames (rs.drop (k + 1)) := by
  obtain ⟨hk, rfl⟩ := List.getElem?_eq_some_iff.1 h
  have e : rs = rs.take k ++ rs[k] :: rs.drop (k + 1) := by rw [← List.drop_eq_getElem_cons hk, List.take_append_drop]
  unfold frames
  calc (rs.map frame).flatten = ((rs.take k ++ rs[k] :: rs.drop (k + 1)).map frame).flatten := by rw [← e]
    _ = _ := by simp only [List.map_append, List.map_cons, List.flatten_append, List.flatten_cons, List.append_assoc]
theorem frames_ge (rs : List (List UInt8)) : 3 * rs.length ≤ (frames rs).length := by
  induction rs with
  | nil => exact Nat.zero_le _
  | cons r rs ih =>
    have e : frames (r :: rs) = frame r ++ frames rs := by simp [frames]
    rw [e, List.length_append, frame_length, List.length_cons]
    omega
theorem frames_append (a b : List (List UInt8)) : frames (a ++ b) = frames a ++ frames b := by simp [frames]
/-- The three bytes that tell a length. -/
theorem head_num (n : Nat) (h : n ≤ 65536) : (UInt8.ofNat (n / 65536)).toNat * 65536 + (UInt8.ofNat (n / 256 % 256)).toNat * 256 + (UInt8.ofNat (n % 256)).toNat = n := by
  simp only [UInt8.toNat_ofNat']
  omega
end Go.Proofs.Ytebeafpoblhlhaa
