/-
  PLAIN MATHEMATICS FOR THE STRICT READER: where the k-th byte of s stands in the text that 'appendJSONString' made.
-/
import Derived.Test.Qxb6600726aModsJson
namespace Go.Proofs.Qxb6600726aMods.ReadP
open Go.Proofs.Qxb6600726aMods.Json

/-- The place of the k-th byte's text. -/
def at_ (n : Nat) (s : ByteArray) (k : Nat) : Nat := n + 1 + (enc ((sb s).take k)).length

theorem sb_drop (s : ByteArray) (k : Nat) (h : k < s.size) : (sb s).drop k = ((s[k]'h).toNat : Int) :: (sb s).drop (k + 1) := by
  rw [List.drop_eq_getElem_cons (by rw [length_sb]; exact h)]
  congr 1
  simp only [sb, List.getElem_map]
  rfl

theorem out_split (zs : List Int) (s : ByteArray) (k : Nat) (h : k < s.size) : out zs (sb s) = (zs ++ [34] ++ enc ((sb s).take k)) ++ (enc1 ((s[k]'h).toNat : Int) ++ (enc ((sb s).drop (k + 1)) ++ [34])) := by
  have e : sb s = (sb s).take k ++ (sb s).drop k := (List.take_append_drop k (sb s)).symm
  have : enc (sb s) = enc ((sb s).take k) ++ (enc1 ((s[k]'h).toNat : Int) ++ enc ((sb s).drop (k + 1))) := by
    have h2 := congrArg enc e
    rw [enc_append, sb_drop s k h] at h2
    rw [h2]
    rfl
  unfold out
  rw [this]
  simp only [List.append_assoc]

theorem at_len (zs : List Int) (n : Nat) (s : ByteArray) (k : Nat) (hz : zs.length = n) : (zs ++ [34] ++ enc ((sb s).take k)).length = at_ n s k := by
  simp [at_, hz]; omega

/-- The j-th byte of the k-th byte's text. -/
theorem out_at {zs : List Int} {n : Nat} {s : ByteArray} {k : Nat} (hz : zs.length = n) (h : k < s.size) {j : Nat} {x : List Int} (hx : enc1 ((s[k]'h).toNat : Int) = x) (hj : j < x.length) :
    (out zs (sb s)).getD (at_ n s k + j) 0 = x.getD j 0 := by
  rw [out_split zs s k h, hx, List.getD, List.getElem?_append_right (by rw [at_len zs n s k hz]; omega), at_len zs n s k hz]
  have e : at_ n s k + j - at_ n s k = j := by omega
  rw [e, List.getElem?_append_left hj, List.getD]

theorem at_next {n : Nat} {s : ByteArray} {k : Nat} (h : k < s.size) {x : List Int} (hx : enc1 ((s[k]'h).toNat : Int) = x) : at_ n s (k + 1) = at_ n s k + x.length := by
  unfold at_
  rw [enc_step s k _ h rfl, hx, List.length_append]
  omega

theorem at_fits {zs : List Int} {n : Nat} {s : ByteArray} {k : Nat} (hz : zs.length = n) (h : k < s.size) {x : List Int} (hx : enc1 ((s[k]'h).toNat : Int) = x) : at_ n s k + x.length + 1 ≤ (out zs (sb s)).length := by
  rw [out_split zs s k h, hx, List.length_append, at_len zs n s k hz]
  simp
  omega

theorem at_end {zs : List Int} {n : Nat} {s : ByteArray} (hz : zs.length = n) : at_ n s s.size + 1 = (out zs (sb s)).length ∧ (out zs (sb s)).getD (at_ n s s.size) 0 = 34 := by
  have e : out zs (sb s) = (zs ++ [34] ++ enc ((sb s).take s.size)) ++ [34] := by
    rw [List.take_of_length_le (by rw [length_sb]; exact Nat.le_refl _)]; rfl
  rw [e]
  refine ⟨by rw [List.length_append, at_len zs n s _ hz]; rfl, ?_⟩
  rw [List.getD, List.getElem?_append_right (by rw [at_len zs n s _ hz]; omega), at_len zs n s _ hz]
  simp

theorem at_head {zs : List Int} {n : Nat} {s : ByteArray} (hz : zs.length = n) : (out zs (sb s)).getD n 0 = 34 := by
  unfold out
  rw [List.append_assoc, List.append_assoc, List.getD, List.getElem?_append_right (by omega), hz]
  simp
theorem at_zero {n : Nat} {s : ByteArray} : at_ n s 0 = n + 1 := by simp [at_, enc]
theorem at_le {n : Nat} {s : ByteArray} {k : Nat} : at_ n s k ≤ n + 1 + 6 * k ∧ n + 1 ≤ at_ n s k := by
  have := enc_take_len s k
  unfold at_
  omega
end Go.Proofs.Qxb6600726aMods.ReadP
