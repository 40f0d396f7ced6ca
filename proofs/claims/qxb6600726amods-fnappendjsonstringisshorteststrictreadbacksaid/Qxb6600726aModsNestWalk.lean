/-
  THE WALK OF 'nesting' (function 25) AND OF ITS DOOR 'ZZnesting' (18): it returns 'nrun' of the bytes; the world stands.
-/
import Derived.Test.Qxb6600726aModsRows
import Derived.Test.Qxb6600726aModsPlain
import Derived.WalkKit
import Derived.ProofKit
import Derived.Below
import Derived.WalkSpells
import Derived.WalkLawsBesides
namespace Go.Proofs.Qxb6600726aMods.Nest
open Go.ChangeShapes Go.WideShapes Go.ChangeAt Go.RowKit
open Go.Proofs.Qxb6600726aMods.Plain
set_option linter.unusedVariables false

/-- WHAT A SLICE OF BYTES HOLDS: 'n' bytes 'zs', read off its cells (of an empty one nothing is asked of the address). -/
def Rd (w : World) (a : Option Addr) (n : Nat) (zs : List Int) : Prop :=
  zs.length = n ∧ (∀ j, 0 ≤ zs.getD j 0 ∧ zs.getD j 0 ≤ 255) ∧
  (n = 0 ∨ ∃ b off, a = some ⟨b, off, none⟩ ∧ ∀ j, j < n → w.cell? ⟨b, off + j, none⟩ = some (.int .u8 (zs.getD j 0)))

theorem ret_int {k : IntKind} {a b : Int} (h : a = b) : Ending.returned (.int k a) = .returned (.int k b) := by rw [h]

set_option maxHeartbeats 400000 in
theorem nesting_some (b off n cap : Nat) (zs : List Int) (w : World) (hl : zs.length = n) (hn : n ≤ 1073741824) (hb : ∀ j, 0 ≤ zs.getD j 0 ∧ zs.getD j 0 ≤ 255)
    (hcell : ∀ j, j < n → w.cell? ⟨b, off + j, none⟩ = some (.int .u8 (zs.getD j 0))) :
    Calls Trym.prog 25 #[.slice (some ⟨b, off, none⟩) n cap] w fun e w' => e = .returned (.int .i64 (nrun zs 0 0 0)) ∧ w' = w := by
  obtain ⟨T, hT⟩ : ∃ T, T = nrun zs 0 0 0 := ⟨_, rfl⟩
  rw [← hT]
  have HT : Hid (T = nrun zs 0 0 0) := hT
  clear hT
  go_enter Trym.func25, Trym.ntmps25
  go_wp2
  go_loop [3, 4, 5, 6] (fun d bb s i => ∃ (k : Nat) (D B : Int) (f : Bool), k ≤ n + 1 ∧ i = .int .i64 k ∧ d = .int .i64 D ∧ bb = .int .i64 B ∧ s = .bool f ∧ -(k : Int) ≤ D ∧ D ≤ k ∧ 0 ≤ B ∧ B ≤ k ∧ Hid (nrun (zs.drop k) (if f then 1 else 0) D B = T))
    (fun _ _ _ i => n + 2 - (intOf i).toNat)
  case atStart => exact ⟨0, 0, 0, false, by omega, rfl, rfl, rfl, rfl, by omega, by omega, by omega, by omega, HT.out.symm⟩
  case round =>
    obtain ⟨k, D, B, f, hk, rfl, rfl, rfl, rfl, hD1, hD2, hB1, hB2, HN⟩ := hrel
    by_cases hlt : k < n
    · obtain ⟨c, hc⟩ : ∃ c, c = zs.getD k 0 := ⟨_, rfl⟩
      have hcc := hcell k hlt
      have hcb := hb k
      rw [← hc] at hcc hcb
      have HC : Hid (c = zs.getD k 0) := hc
      clear hc hcell hb
      have hkl : Hid (k < zs.length) := by show _ < _; omega
      have hmax : (if B < D + 1 then D + 1 else B) = max B (D + 1) := by split <;> omega
      have HM : Hid ((if B < D + 1 then D + 1 else B) = max B (D + 1)) := hmax
      clear hmax
      cases f
      · go_wp2
        · go_round
          case rel => exact ⟨k + 1, D, B, true, by omega, by go_num, rfl, rfl, rfl, by omega, by omega, by omega, by omega, (out_quote hkl.out HC.out (beq_iff_eq.1 (by assumption))).symm.trans HN.out⟩
          case measure => simp [intOf]; omega
        · go_round
          case rel => exact ⟨k + 1, D + 1, max B (D + 1), false, by omega, by go_num, rfl, by rw [HM.out], rfl, by omega, by omega, by omega, by omega, (out_open hkl.out HC.out (.inl (beq_iff_eq.1 (by assumption)))).symm.trans HN.out⟩
          case measure => simp [intOf]; omega
        · go_round
          case rel => exact ⟨k + 1, D + 1, max B (D + 1), false, by omega, by go_num, rfl, by rw [HM.out], rfl, by omega, by omega, by omega, by omega, (out_open hkl.out HC.out (.inr (beq_iff_eq.1 (by assumption)))).symm.trans HN.out⟩
          case measure => simp [intOf]; omega
        · go_round
          case rel => exact ⟨k + 1, D - 1, B, false, by omega, by go_num, rfl, rfl, rfl, by omega, by omega, by omega, by omega, (out_shut hkl.out HC.out (.inl (beq_iff_eq.1 (by assumption)))).symm.trans HN.out⟩
          case measure => simp [intOf]; omega
        · go_round
          case rel => exact ⟨k + 1, D - 1, B, false, by omega, by go_num, rfl, rfl, rfl, by omega, by omega, by omega, by omega, (out_shut hkl.out HC.out (.inr (beq_iff_eq.1 (by assumption)))).symm.trans HN.out⟩
          case measure => simp [intOf]; omega
        · have t1 : (c == 34) = false := by assumption
          have t2 : (c == 123) = false := by assumption
          have t3 : (c == 91) = false := by assumption
          have t4 : (c == 125) = false := by assumption
          have t5 : (c == 93) = false := by assumption
          go_round
          case rel => exact ⟨k + 1, D, B, false, by omega, by go_num, rfl, rfl, rfl, by omega, by omega, by omega, by omega, (out_else hkl.out HC.out (beq_eq_false_iff_ne.1 t1) (not_or.2 ⟨beq_eq_false_iff_ne.1 t2, beq_eq_false_iff_ne.1 t3⟩) (not_or.2 ⟨beq_eq_false_iff_ne.1 t4, beq_eq_false_iff_ne.1 t5⟩)).symm.trans HN.out⟩
          case measure => simp [intOf]; omega
      · go_wp2
        · go_round
          case rel => exact ⟨k + 2, D, B, true, by omega, by go_num, rfl, rfl, rfl, by omega, by omega, by omega, by omega, (in_back hkl.out HC.out (beq_iff_eq.1 (by assumption))).symm.trans HN.out⟩
          case measure => simp [intOf]; omega
        · go_round
          case rel => exact ⟨k + 1, D, B, false, by omega, by go_num, rfl, rfl, rfl, by omega, by omega, by omega, by omega, (in_quote hkl.out HC.out (beq_iff_eq.1 (by assumption))).symm.trans HN.out⟩
          case measure => simp [intOf]; omega
        · have t1 : (c == 92) = false := by assumption
          have t2 : (c == 34) = false := by assumption
          go_round
          case rel => exact ⟨k + 1, D, B, true, by omega, by go_num, rfl, rfl, rfl, by omega, by omega, by omega, by omega, (in_else hkl.out HC.out (beq_eq_false_iff_ne.1 t1) (beq_eq_false_iff_ne.1 t2)).symm.trans HN.out⟩
          case measure => simp [intOf]; omega
    · go_wp2
      go_ret
      have e := HN.out
      rw [at_end (by omega)] at e
      exact ⟨ret_int e, rfl⟩

/-- An empty slice, whatever its address. -/
theorem nesting_none (a : Option Addr) (cap : Nat) (w : World) :
    Calls Trym.prog 25 #[.slice a 0 cap] w fun e w' => e = .returned (.int .i64 0) ∧ w' = w := by
  go_enter Trym.func25, Trym.ntmps25
  go_wp2
  refine wp_loop_rounds 1 ?_
  rw [rounds_succ]
  go_wp2
  go_ret
  exact ⟨rfl, rfl⟩

theorem nesting_any (a : Option Addr) (n cap : Nat) (zs : List Int) (w : World) (hn : n ≤ 1073741824) (h : Rd w a n zs) :
    Calls Trym.prog 25 #[.slice a n cap] w fun e w' => e = .returned (.int .i64 (nrun zs 0 0 0)) ∧ w' = w := by
  obtain ⟨hl, hb, rfl | ⟨b, off, rfl, hc⟩⟩ := h
  · obtain rfl : zs = [] := List.eq_nil_of_length_eq_zero hl
    exact nesting_none a cap w
  · exact nesting_some b off n cap zs w hl hn hb hc

theorem door_any (a : Option Addr) (n cap : Nat) (zs : List Int) (w : World) (hn : n ≤ 1073741824) (h : Rd w a n zs) :
    Calls Trym.prog 18 #[.slice a n cap] w fun e w' => e = .returned (.int .i64 (nrun zs 0 0 0)) ∧ w' = w := by
  go_enter Trym.func18, Trym.ntmps18
  go_wp2_with (go_at_call 25; refine (nesting_any a n cap zs _ hn h).mono ?_; rintro e w' ⟨rfl, rfl⟩)
  go_ret
  exact ⟨rfl, rfl⟩
end Go.Proofs.Qxb6600726aMods.Nest
