/-
  PLAIN MATHEMATICS FOR THIS SEAT: no Go in sight. 'low': what 'lowerASCII' does to one byte.
-/
namespace Go.Proofs.Qxb6602196aMods.Plain

def low (c : Int) : Int := if 65 ≤ c ∧ c ≤ 90 then c + 32 else c
def sb (s : ByteArray) : List Int := s.data.toList.map fun c => (c.toNat : Int)

theorem length_sb (s : ByteArray) : (sb s).length = s.size := by simp [sb]
theorem sb_get (s : ByteArray) (k : Nat) (h : k < s.size) : (sb s).getD k 0 = ((s[k]'h).toNat : Int) := by
  simp only [sb, List.getD, List.getElem?_map]
  have : s.data.toList[k]? = some (s[k]'h) := by
    rw [List.getElem?_eq_getElem (by simpa using h)]
    rfl
  rw [this]; rfl
theorem low_le (c : Int) (h0 : 0 ≤ c) (h1 : c ≤ 255) : 0 ≤ low c ∧ low c ≤ 255 := by unfold low; split <;> omega

/-- The first k bytes lowered, the others as they are: byte j. -/
def at_ (s : ByteArray) (k j : Nat) : Int := if j < k then low ((sb s).getD j 0) else (sb s).getD j 0
theorem at_zero (s : ByteArray) (j : Nat) : at_ s 0 j = (sb s).getD j 0 := by simp [at_]
theorem at_same (s : ByteArray) {k j : Nat} (h : j ≠ k) : at_ s (k + 1) j = at_ s k j := by
  unfold at_
  by_cases hj : j < k
  · rw [if_pos hj, if_pos (by omega)]
  · rw [if_neg hj, if_neg (by omega)]
theorem at_new (s : ByteArray) (k : Nat) : at_ s (k + 1) k = low ((sb s).getD k 0) := by simp [at_]
theorem at_old (s : ByteArray) (k : Nat) : at_ s k k = (sb s).getD k 0 := by simp [at_]
theorem at_done (s : ByteArray) {j : Nat} (h : j < s.size) : at_ s s.size j = ((sb s).map low).getD j 0 := by
  rw [at_, if_pos h]
  simp only [List.getD, List.getElem?_map]
  have : (sb s)[j]? = some ((sb s)[j]'(by rw [length_sb]; exact h)) := List.getElem?_eq_getElem _
  rw [this]; rfl
theorem low_yes {c : Int} (h0 : 65 ≤ c) (h1 : c ≤ 90) : low c = c + 97 - 65 := by unfold low; rw [if_pos ⟨h0, h1⟩]; omega
theorem low_no {c : Int} (h : ¬ (65 ≤ c ∧ c ≤ 90)) : low c = c := by unfold low; rw [if_neg h]
end Go.Proofs.Qxb6602196aMods.Plain
