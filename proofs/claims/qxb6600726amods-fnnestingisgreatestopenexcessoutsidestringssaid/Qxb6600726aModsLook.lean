/-
  PLAIN MATHEMATICS: 'tr zs S k': how many backslashes stand just before place k, none of them before place S: what 'modelNestingSsb1' counts by looking back; and how it tells the mode of 'nrun'.
-/
import Derived.Test.Qxb6600726aModsPlain
namespace Go.Proofs.Qxb6600726aMods.Look
open Go.Proofs.Qxb6600726aMods.Plain

def tr (zs : List Int) (S : Nat) : Nat → Nat
  | 0 => 0
  | k + 1 => if S ≤ k ∧ zs.getD k 0 = 92 then tr zs S k + 1 else 0

section
variable {zs : List Int} {S k : Nat} {c D B : Int}
theorem tr_before : ∀ {k : Nat}, k ≤ S → tr zs S k = 0
  | 0, _ => rfl
  | k + 1, h => by rw [tr, if_neg (by omega)]
theorem tr_yes (h : S ≤ k) (hc : c = zs.getD k 0) (h1 : c = 92) : tr zs S (k + 1) = tr zs S k + 1 := by
  rw [tr, if_pos ⟨h, by rw [← hc]; exact h1⟩]
theorem tr_no (hc : c = zs.getD k 0) (h1 : ¬ c = 92) : tr zs S (k + 1) = 0 := by
  rw [tr, if_neg (by rw [← hc]; exact fun e => h1 e.2)]

/-- The mode of 'nrun' at place k of a text whose string was opened just before place S. -/
def md (zs : List Int) (S k : Nat) : Nat := 1 + tr zs S k % 2

theorem md_start : md zs k k = 1 := by unfold md; rw [tr_before (Nat.le_refl _)]

/-- Inside a string, a byte that is no quotation mark. -/
theorem in_step (h : k < zs.length) (hS : S ≤ k) (hc : c = zs.getD k 0) (h1 : ¬ c = 34) : nrun (zs.drop k) (md zs S k) D B = nrun (zs.drop (k + 1)) (md zs S (k + 1)) D B := by
  by_cases h2 : c = 92
  · have e := tr_yes (zs := zs) hS hc h2
    by_cases hp : tr zs S k % 2 = 0
    · have m1 : md zs S k = 1 := by unfold md; omega
      have m2 : md zs S (k + 1) = 2 := by unfold md; omega
      rw [m1, m2]; exact in_back1 h hc h2
    · have m1 : md zs S k = 2 := by unfold md; omega
      have m2 : md zs S (k + 1) = 1 := by unfold md; omega
      rw [m1, m2]; exact esc_any h
  · have e := tr_no (zs := zs) (S := S) hc h2
    have m2 : md zs S (k + 1) = 1 := by unfold md; omega
    rw [m2]
    by_cases hp : tr zs S k % 2 = 0
    · have m1 : md zs S k = 1 := by unfold md; omega
      rw [m1]; exact in_else h hc h2 h1
    · have m1 : md zs S k = 2 := by unfold md; omega
      rw [m1]; exact esc_any h
/-- Inside a string, a quotation mark behind an even run: it closes. -/
theorem in_shut (h : k < zs.length) (hc : c = zs.getD k 0) (h1 : c = 34) (hp : tr zs S k % 2 = 0) : nrun (zs.drop k) (md zs S k) D B = nrun (zs.drop (k + 1)) 0 D B := by
  have m1 : md zs S k = 1 := by unfold md; omega
  rw [m1]; exact in_quote h hc h1
/-- .. behind an odd run: it does not. -/
theorem in_stay (h : k < zs.length) (hc : c = zs.getD k 0) (h1 : c = 34) (hp : ¬ tr zs S k % 2 = 0) : nrun (zs.drop k) (md zs S k) D B = nrun (zs.drop (k + 1)) (md zs S (k + 1)) D B := by
  have m1 : md zs S k = 2 := by unfold md; omega
  have e := tr_no (zs := zs) (S := S) hc (by omega)
  have m2 : md zs S (k + 1) = 1 := by unfold md; omega
  rw [m1, m2]; exact esc_any h
end
end Go.Proofs.Qxb6600726aMods.Look
