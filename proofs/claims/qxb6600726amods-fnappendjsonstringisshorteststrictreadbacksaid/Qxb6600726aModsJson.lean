/-
  PLAIN MATHEMATICS: what 'appendJSONString' appends, byte by byte.
-/
namespace Go.Proofs.Qxb6600726aMods.Json

def hexd (d : Int) : Int := if d < 10 then 48 + d else 87 + d
def enc1 (c : Int) : List Int :=
  if c = 34 ∨ c = 92 then [92, c]
  else if c = 8 then [92, 98]
  else if c = 12 then [92, 102]
  else if c = 10 then [92, 110]
  else if c = 13 then [92, 114]
  else if c = 9 then [92, 116]
  else if c < 32 then [92, 117, 48, 48, hexd (c / 16), hexd (c % 16)]
  else [c]
def enc : List Int → List Int
  | [] => []
  | c :: r => enc1 c ++ enc r
def sb (s : ByteArray) : List Int := s.data.toList.map fun c => (c.toNat : Int)

theorem enc_append (x y : List Int) : enc (x ++ y) = enc x ++ enc y := by
  induction x with
  | nil => rfl
  | cons c r ih => simp [enc, ih]
theorem length_sb (s : ByteArray) : (sb s).length = s.size := by simp [sb]
theorem sb_take (s : ByteArray) (k : Nat) (h : k < s.size) : (sb s).take (k + 1) = (sb s).take k ++ [((s[k]'h).toNat : Int)] := by
  rw [List.take_succ_eq_append_getElem (by rw [length_sb]; exact h)]
  congr 2
  simp only [sb, List.getElem_map]
  rfl
theorem enc_step (s : ByteArray) (k : Nat) (c : Int) (h : k < s.size) (hc : c = ((s[k]'h).toNat : Int)) : enc ((sb s).take (k + 1)) = enc ((sb s).take k) ++ enc1 c := by
  rw [sb_take s k h, enc_append, ← hc]; simp [enc]
theorem enc1_len (c : Int) : 1 ≤ (enc1 c).length ∧ (enc1 c).length ≤ 6 := by
  unfold enc1
  repeat' split
  all_goals simp
theorem enc_len (x : List Int) : (enc x).length ≤ 6 * x.length := by
  induction x with
  | nil => simp [enc]
  | cons c r ih => have := enc1_len c; simp [enc]; omega
theorem enc_take_len (s : ByteArray) (k : Nat) : (enc ((sb s).take k)).length ≤ 6 * k := by
  have := enc_len ((sb s).take k)
  simp at this
  omega
def InB (c : Int) : Prop := 0 ≤ c ∧ c ≤ 255

/-- What the whole call gives: b, then one JSON string. -/
def out (zs : List Int) (s : List Int) : List Int := zs ++ [34] ++ enc s ++ [34]
end Go.Proofs.Qxb6600726aMods.Json
