/-
  THE WALKS OF 'equalBytesSsb1' (12) AND 'sameTextSsb1' (14) WHERE THE TWO HOLD THE SAME BYTES: they answer true; nothing turns but the count of draws.
-/
import Derived.Test.Qxb6600726aModsClone
import Derived.Test.Qxb6600726aModsJson
import Derived.Deep.QuietTactic
import Derived.BigQuiet
namespace Go.Proofs.Qxb6600726aMods.Eq
open Go.ChangeShapes Go.WideShapes Go.ChangeAt Go.RowKit
open Go.Proofs.Qxb6600726aMods.Nest Go.Proofs.Qxb6600726aMods.Clone Go.Proofs.Qxb6600726aMods.Json
set_option linter.unusedVariables false

theorem eq_none (a a' : Option Addr) (c c' : Nat) (w : World) :
    Calls Trym.prog 12 #[.slice a 0 c, .slice a' 0 c'] w fun e w' => e = .returned (.bool true) ∧ ∃ q, w' = w.drewN q := by
  go_enter Trym.func12, Trym.ntmps12
  go_wp2
  refine wp_loop_rounds 1 ?_
  rw [rounds_succ]
  go_wp2
  go_ret
  exact ⟨rfl, 0, rfl⟩

set_option maxHeartbeats 400000 in
theorem eq_some (b off b' off' n c c' : Nat) (zs : List Int) (w : World) (hn : n ≤ 1073741824)
    (h : ∀ j, j < n → w.cell? ⟨b, off + j, none⟩ = some (.int .u8 (zs.getD j 0))) (h' : ∀ j, j < n → w.cell? ⟨b', off' + j, none⟩ = some (.int .u8 (zs.getD j 0))) :
    Calls Trym.prog 12 #[.slice (some ⟨b, off, none⟩) n c, .slice (some ⟨b', off', none⟩) n c'] w fun e w' => e = .returned (.bool true) ∧ ∃ q, w' = w.drewN q := by
  go_enter Trym.func12, Trym.ntmps12
  go_wp2
  go_loopw [5] (fun i wr => ∃ k q : Nat, k ≤ n ∧ i = .int .i64 k ∧ wr = w.drewN q) (fun i _ => n - (intOf i).toNat)
  case atStart => exact ⟨0, 0, Nat.zero_le _, rfl, rfl⟩
  case round =>
    obtain ⟨k, q, hk, rfl, rfl⟩ := hrel
    by_cases hlt : k < n
    · obtain ⟨z, hz⟩ : ∃ z, z = zs.getD k 0 := ⟨_, rfl⟩
      have h1 := h k hlt
      have h2 := h' k hlt
      rw [← hz] at h1 h2
      clear hz h h'
      have hlt' : (k : Int) < (n : Int) := by omega
      go_wp2
      go_quiet (fail)
      go_wp2
      go_roundw
      case rel => exact ⟨k + 1, q + nq, by omega, by go_num, rfl⟩
      case measure => simp [intOf]; omega
    · go_wp2
      go_ret
      exact ⟨rfl, q, rfl⟩

theorem eq_any (a a' : Option Addr) (n c c' : Nat) (zs : List Int) (w : World) (hn : n ≤ 1073741824) (h : Rd w a n zs) (h' : Rd w a' n zs) :
    Calls Trym.prog 12 #[.slice a n c, .slice a' n c'] w fun e w' => e = .returned (.bool true) ∧ ∃ q, w' = w.drewN q := by
  obtain ⟨_, _, rfl | ⟨b, off, rfl, hc⟩⟩ := h
  · exact eq_none a a' c c' w
  · obtain ⟨_, _, rfl | ⟨b', off', rfl, hc'⟩⟩ := h'
    · exact eq_none _ a' c c' w
    · exact eq_some b off b' off' n c c' zs w hn hc hc'

theorem text_none (a : Option Addr) (c : Nat) (s : ByteArray) (hs : s.size = 0) (w : World) :
    Calls Trym.prog 14 #[.slice a 0 c, .string s] w fun e w' => e = .returned (.bool true) ∧ ∃ q, w' = w.drewN q := by
  go_enter Trym.func14, Trym.ntmps14
  go_wp2
  refine wp_loop_rounds 1 ?_
  rw [rounds_succ]
  go_wp2
  go_ret
  exact ⟨rfl, 0, rfl⟩

theorem sb_get (s : ByteArray) (k : Nat) (h : k < s.size) : (sb s).getD k 0 = ((s[k]'h).toNat : Int) := by
  simp only [sb, List.getD, List.getElem?_map]
  have : s.data.toList[k]? = some (s[k]'h) := by
    rw [List.getElem?_eq_getElem (by simpa using h)]
    rfl
  rw [this]; rfl

set_option maxHeartbeats 400000 in
theorem text_some (b off n c : Nat) (s : ByteArray) (w : World) (hn : n ≤ 1073741824) (hs : s.size = n)
    (h : ∀ j, j < n → w.cell? ⟨b, off + j, none⟩ = some (.int .u8 ((sb s).getD j 0))) :
    Calls Trym.prog 14 #[.slice (some ⟨b, off, none⟩) n c, .string s] w fun e w' => e = .returned (.bool true) ∧ ∃ q, w' = w.drewN q := by
  subst hs
  go_enter Trym.func14, Trym.ntmps14
  go_wp2
  go_loopw [5] (fun i wr => ∃ k q : Nat, k ≤ s.size ∧ i = .int .i64 k ∧ wr = w.drewN q) (fun i _ => s.size - (intOf i).toNat)
  case atStart => exact ⟨0, 0, Nat.zero_le _, rfl, rfl⟩
  case round =>
    obtain ⟨k, q, hk, rfl, rfl⟩ := hrel
    by_cases hlt : k < s.size
    · have h1 := h k hlt
      rw [sb_get s k hlt] at h1
      clear h
      have hlt' : (k : Int) < (s.size : Int) := by omega
      go_wp2
      go_quiet (fail)
      go_wp2
      go_roundw
      case rel => exact ⟨k + 1, q + nq, by omega, by go_num, rfl⟩
      case measure => simp [intOf]; omega
    · go_wp2
      go_ret
      exact ⟨rfl, q, rfl⟩

theorem text_any (a : Option Addr) (n c : Nat) (s : ByteArray) (w : World) (hn : n ≤ 1073741824) (h : Rd w a n (sb s)) :
    Calls Trym.prog 14 #[.slice a n c, .string s] w fun e w' => e = .returned (.bool true) ∧ ∃ q, w' = w.drewN q := by
  obtain ⟨hl, _, rfl | ⟨b, off, rfl, hc⟩⟩ := h
  · exact text_none a c s (by rw [← length_sb]; exact hl) w
  · exact text_some b off n c s w hn (by rw [← length_sb]; exact hl) hc
end Go.Proofs.Qxb6600726aMods.Eq
