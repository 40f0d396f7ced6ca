/-
  PLAIN MATHEMATICS FOR THIS SEAT: no Go in sight. 'nrun': what 'nesting' computes, byte by byte, from a state (mode 0: outside a string, 1: inside, 2: inside, the next byte is escaped; depth; deepest).
-/
namespace Go.Proofs.Qxb6600726aMods.Plain

def nrun : List Int → Nat → Int → Int → Int
  | [], _, _, b => b
  | c :: r, m, d, b =>
    if m = 2 then nrun r 1 d b
    else if m = 1 then (if c = 92 then nrun r 2 d b else if c = 34 then nrun r 0 d b else nrun r 1 d b)
    else if c = 34 then nrun r 1 d b
    else if c = 123 ∨ c = 91 then nrun r 0 (d + 1) (max b (d + 1))
    else if c = 125 ∨ c = 93 then nrun r 0 (d - 1) b
    else nrun r 0 d b

theorem drop_cons {zs : List Int} {k : Nat} (h : k < zs.length) : zs.drop k = zs.getD k 0 :: zs.drop (k + 1) := by
  rw [List.drop_eq_getElem_cons h]
  simp [List.getD, h]

/-! ### one byte of 'nrun', in the forms that the walks want -/
section
variable {zs : List Int} {k : Nat} {c D B : Int}

theorem out_quote (h : k < zs.length) (hc : c = zs.getD k 0) (h1 : c = 34) : nrun (zs.drop k) 0 D B = nrun (zs.drop (k + 1)) 1 D B := by
  rw [drop_cons h, ← hc]; simp [nrun, h1]
theorem out_open (h : k < zs.length) (hc : c = zs.getD k 0) (h1 : c = 123 ∨ c = 91) : nrun (zs.drop k) 0 D B = nrun (zs.drop (k + 1)) 0 (D + 1) (max B (D + 1)) := by
  rw [drop_cons h, ← hc]
  have : ¬ c = 34 := by omega
  simp [nrun, h1, this]
theorem out_shut (h : k < zs.length) (hc : c = zs.getD k 0) (h1 : c = 125 ∨ c = 93) : nrun (zs.drop k) 0 D B = nrun (zs.drop (k + 1)) 0 (D - 1) B := by
  rw [drop_cons h, ← hc]
  have a : ¬ c = 34 := by omega
  have b : ¬ (c = 123 ∨ c = 91) := by omega
  simp [nrun, h1, a, b]
theorem out_else (h : k < zs.length) (hc : c = zs.getD k 0) (a : ¬ c = 34) (b : ¬ (c = 123 ∨ c = 91)) (d : ¬ (c = 125 ∨ c = 93)) : nrun (zs.drop k) 0 D B = nrun (zs.drop (k + 1)) 0 D B := by
  rw [drop_cons h, ← hc]
  simp [nrun, a, b, d]
theorem in_back1 (h : k < zs.length) (hc : c = zs.getD k 0) (h1 : c = 92) : nrun (zs.drop k) 1 D B = nrun (zs.drop (k + 1)) 2 D B := by
  rw [drop_cons h, ← hc]; simp [nrun, h1]
theorem esc_any (h : k < zs.length) : nrun (zs.drop k) 2 D B = nrun (zs.drop (k + 1)) 1 D B := by
  rw [drop_cons h]; simp [nrun]
theorem in_back (h : k < zs.length) (hc : c = zs.getD k 0) (h1 : c = 92) : nrun (zs.drop k) 1 D B = nrun (zs.drop (k + 2)) 1 D B := by
  rw [in_back1 h hc h1]
  by_cases h2 : k + 1 < zs.length
  · rw [esc_any h2]
  · rw [List.drop_of_length_le (by omega), List.drop_of_length_le (by omega)]; rfl
theorem in_quote (h : k < zs.length) (hc : c = zs.getD k 0) (h1 : c = 34) : nrun (zs.drop k) 1 D B = nrun (zs.drop (k + 1)) 0 D B := by
  rw [drop_cons h, ← hc]; simp [nrun, h1]
theorem in_else (h : k < zs.length) (hc : c = zs.getD k 0) (a : ¬ c = 92) (b : ¬ c = 34) : nrun (zs.drop k) 1 D B = nrun (zs.drop (k + 1)) 1 D B := by
  rw [drop_cons h, ← hc]; simp [nrun, a, b]
theorem at_end {m : Nat} (h : zs.length ≤ k) : nrun (zs.drop k) m D B = B := by
  rw [List.drop_of_length_le h]; rfl
end

/-! ### THE LAW 'WRAPPED ONCE NESTS ONE DEEPER' -/
theorem nrun_wrap (s : Int) (hs : s = 93 ∨ s = 125) : ∀ (zs : List Int) (m : Nat) (d b : Int), nrun (zs ++ [s]) m (d + 1) (b + 1) = nrun zs m d b + 1
  | [], m, d, b => by
    have a : ¬ s = 34 := by omega
    have c : ¬ (s = 123 ∨ s = 91) := by omega
    have e : ¬ s = 92 := by omega
    by_cases h2 : m = 2
    · simp [nrun, h2]
    · by_cases h1 : m = 1
      · simp [nrun, h1, a, e]
      · have f : s = 125 ∨ s = 93 := by omega
        simp [nrun, h1, h2, a, c, f]
  | z :: r, m, d, b => by
    have ih := nrun_wrap s hs r
    simp only [List.cons_append, nrun]
    split
    · exact ih _ _ _
    · split
      · split
        · exact ih _ _ _
        · split
          · exact ih _ _ _
          · exact ih _ _ _
      · split
        · exact ih _ _ _
        · split
          · have e : max (b + 1) (d + 1 + 1) = max b (d + 1) + 1 := by omega
            rw [e]; exact ih _ _ _
          · split
            · have e : d + 1 - 1 = d - 1 + 1 := by omega
              rw [e]; exact ih _ _ _
            · exact ih _ _ _

theorem wrapped (o s : Int) (ho : o = 91 ∨ o = 123) (hs : s = 93 ∨ s = 125) (zs : List Int) : nrun ([o] ++ zs ++ [s]) 0 0 0 = nrun zs 0 0 0 + 1 := by
  have a : ¬ o = 34 := by omega
  have b : o = 123 ∨ o = 91 := by omega
  have h := nrun_wrap s hs zs 0 0 0
  simp only [List.cons_append, List.nil_append, nrun]
  simp only [a, b, if_true, if_false]
  have e : max (0 : Int) (0 + 1) = 0 + 1 := by decide
  rw [e]
  simpa using h

theorem nrun_bounds : ∀ (zs : List Int) (m : Nat) (d b : Int), 0 ≤ b → b ≤ nrun zs m d b ∧ nrun zs m d b ≤ max b (d + zs.length)
  | [], m, d, b, h => by simp [nrun]; omega
  | z :: r, m, d, b, h => by
    have ih := nrun_bounds r
    simp only [nrun, List.length_cons]
    split
    · have := ih 1 d b h; omega
    · split
      · split
        · have := ih 2 d b h; omega
        · split
          · have := ih 0 d b h; omega
          · have := ih 1 d b h; omega
      · split
        · have := ih 1 d b h; omega
        · split
          · have := ih 0 (d + 1) (max b (d + 1)) (by omega); omega
          · split
            · have := ih 0 (d - 1) b h; omega
            · have := ih 0 d b h; omega
end Go.Proofs.Qxb6600726aMods.Plain
