/-
  THE WALKS OF 'upperIndex' (13) AND OF THE LAW 'FnLowerASCIISpec' (function 4).
-/
import Derived.Test.Qxb6602196aModsLowWalk
import Derived.Deep.QuietTactic
import Derived.BigQuiet
namespace Go.Proofs.Qxb6602196aMods.Spec
open Go.ChangeShapes Go.WideShapes Go.ChangeAt Go.RowKit
open Go.Proofs.Qxb6602196aMods.Plain Go.Proofs.Qxb6602196aMods.Low
set_option linter.unusedVariables false

def up (c : Int) : Int := if 65 ≤ c ∧ c ≤ 90 then c - 65 else -1

/-- A letter of the alphabets that the program's text holds. -/
theorem upp_at (k : Nat) (hk : k < 26) (w : World) : (Instr.index 9 (Value.string { data := #[65, 66, 67, 68, 69, 70, 71, 72, 73, 74, 75, 76, 77, 78, 79, 80, 81, 82, 83, 84, 85, 86, 87, 88, 89, 90] }) (.int .i64 (k : Int))).run Trym.prog w = .ok (.int .u8 (65 + (k : Int))) w := by
  have hk' : (k : Int) < 26 := by omega
  go_simp
  have key : ∀ n : Fin 26, ((({ data := #[65, 66, 67, 68, 69, 70, 71, 72, 73, 74, 75, 76, 77, 78, 79, 80, 81, 82, 83, 84, 85, 86, 87, 88, 89, 90] } : ByteArray)[n.val]'n.isLt).toNat : Int) = 65 + (n.val : Int) := by decide
  exact key ⟨k, hk⟩
theorem low_at (k : Nat) (hk : k < 26) (w : World) : (Instr.index 9 (Value.string { data := #[97, 98, 99, 100, 101, 102, 103, 104, 105, 106, 107, 108, 109, 110, 111, 112, 113, 114, 115, 116, 117, 118, 119, 120, 121, 122] }) (.int .i64 (k : Int))).run Trym.prog w = .ok (.int .u8 (97 + (k : Int))) w := by
  have hk' : (k : Int) < 26 := by omega
  go_simp
  have key : ∀ n : Fin 26, ((({ data := #[97, 98, 99, 100, 101, 102, 103, 104, 105, 106, 107, 108, 109, 110, 111, 112, 113, 114, 115, 116, 117, 118, 119, 120, 121, 122] } : ByteArray)[n.val]'n.isLt).toNat : Int) = 97 + (n.val : Int) := by decide
  exact key ⟨k, hk⟩

theorem ret_int {k : IntKind} {a b : Int} (h : a = b) : Ending.returned (.int k a) = .returned (.int k b) := by rw [h]

set_option maxHeartbeats 800000 in
theorem index_any (c : Int) (w : World) (h0 : 0 ≤ c) (h1 : c ≤ 255) : Calls Trym.prog 13 #[.int .u8 c] w fun e w' => e = .returned (.int .i64 (up c)) ∧ w' = w := by
  go_enter Trym.func13, Trym.ntmps13
  go_wp2
  go_loop [3] (fun j => ∃ k : Nat, k ≤ 26 ∧ j = .int .i64 k ∧ Hid (¬ (65 ≤ c ∧ c < 65 + (k : Int)))) (fun j => 26 - (intOf j).toNat)
  case atStart => exact ⟨0, by omega, rfl, by show ¬ _; omega⟩
  case round =>
    obtain ⟨k, hk, rfl, HN⟩ := hrel
    by_cases hlt : k < 26
    · have hix := fun wx => upp_at k hlt wx
      go_wp2
      · go_ret
        have t : (65 + (k : Int) == c) = true := by assumption
        have := beq_iff_eq.1 t
        exact ⟨ret_int (by unfold up; rw [if_pos (by omega)]; omega), rfl⟩
      · have t : (65 + (k : Int) == c) = false := by assumption
        have := beq_eq_false_iff_ne.1 t
        go_round
        case rel => exact ⟨k + 1, by omega, by go_num, by show ¬ _; have := HN.out; omega⟩
        case measure => simp [intOf]; omega
    · go_wp2
      go_ret
      exact ⟨ret_int (by unfold up; have := HN.out; rw [if_neg (by omega)]), rfl⟩

theorem str_at (s : ByteArray) (k : Nat) (hk : k < s.size) (w : World) : (Instr.index 9 (Value.string s) (.int .i64 (k : Int))).run Trym.prog w = .ok (.int .u8 ((sb s).getD k 0)) w := by
  rw [run_index_string w 9 s .i64 (k : Int) Trym.underlying9, dif_pos (by omega), sb_get s k hk]
  rfl

theorem spec_long (s : ByteArray) (w : World) (hs : s.size ≤ 9223372036854775807) (h : 1048576 < s.size) :
    Calls Trym.prog 4 #[.string s] w fun e w' => e = .returned (.bool true) ∧ Below w.heap.size w w' := by
  go_enter Trym.func4, Trym.ntmps4
  go_wp2
  all_goals (go_ret; exact ⟨rfl, Below.refl _ _⟩)

set_option maxHeartbeats 800000 in
theorem spec_short (s : ByteArray) (w : World) (hs : s.size ≤ 1048576) :
    Calls Trym.prog 4 #[.string s] w fun e w' => e = .returned (.bool true) ∧ Below w.heap.size w w' := by
  go_enter Trym.func4, Trym.ntmps4
  go_wp2_with (first | (go_at_call 11; go_in))
  refine (door_any s _ (by omega)).mono ?_
  rintro e w1 ⟨rfl, hb1⟩
  have hos := size_lowS s
  have hoc := sb_lowS s
  generalize lowS s = o at *
  have HO : Hid (sb o = (sb s).map low) := hoc
  have HB : Hid (Below w.heap.size w w1) := hb1
  clear hoc hb1
  go_wp2_with fail
  go_loopw [4] (fun i wr => ∃ k q : Nat, k ≤ s.size ∧ i = .int .i64 k ∧ wr = w1.drewN q) (fun i _ => s.size - (intOf i).toNat)
  case atStart => exact ⟨0, 0, Nat.zero_le _, rfl, rfl⟩
  case round =>
    obtain ⟨k, q, hk, rfl, rfl⟩ := hrel
    by_cases hlt : k < s.size
    · have i1 := fun wx => str_at s k hlt wx
      have i2 := fun wx => str_at o k (by omega) wx
      have e2 : (sb o).getD k 0 = low ((sb s).getD k 0) := by
        rw [HO.out]
        simp only [List.getD, List.getElem?_map]
        rw [List.getElem?_eq_getElem (by rw [length_sb]; exact hlt)]
        rfl
      rw [e2] at i2
      have hb := sb_get s k hlt
      have hb0 : 0 ≤ (sb s).getD k 0 := by rw [hb]; exact Int.natCast_nonneg _
      have hb1 : (sb s).getD k 0 ≤ 255 := by rw [hb]; have := (s[k]'hlt).toNat_lt; omega
      generalize (sb s).getD k 0 = c at *
      clear hb e2
      by_cases hup : 65 ≤ c ∧ c ≤ 90
      · obtain ⟨m, hm⟩ : ∃ m : Nat, up c = (m : Int) := ⟨(c - 65).toNat, by unfold up; rw [if_pos hup]; omega⟩
        have hmc : (m : Int) = c - 65 := by rw [← hm]; unfold up; rw [if_pos hup]
        have i3 := fun wx => low_at m (by omega) wx
        obtain ⟨l, hl⟩ : ∃ l, l = low c := ⟨_, rfl⟩
        rw [← hl] at i2
        have hll : (l != 97 + (m : Int)) = false := by
          rw [hl, low_yes hup.1 hup.2]
          simp; omega
        have HM : Hid (up c = (m : Int)) := hm
        clear hm hl hmc hup
        go_wp2_with fail
        refine (index_any c _ hb0 hb1).mono ?_
        rintro e w2 ⟨rfl, rfl⟩
        rw [HM.out]
        go_wp2
        go_quiet (fail)
        go_wp2
        go_roundw
        case rel => exact ⟨k + 1, q + nq, by omega, by go_num, rfl⟩
        case measure => simp [intOf]; omega
      · have HM : Hid (up c = -1) := by show _ = _; unfold up; rw [if_neg hup]
        rw [low_no hup] at i2
        clear hup
        go_wp2_with fail
        refine (index_any c _ hb0 hb1).mono ?_
        rintro e w2 ⟨rfl, rfl⟩
        rw [HM.out]
        go_wp2
        go_quiet (fail)
        go_wp2
        go_roundw
        case rel => exact ⟨k + 1, q + nq, by omega, by go_num, rfl⟩
        case measure => simp [intOf]; omega
    · go_wp2
      go_ret
      exact ⟨rfl, below_drewN HB.out _⟩
end Go.Proofs.Qxb6602196aMods.Spec
