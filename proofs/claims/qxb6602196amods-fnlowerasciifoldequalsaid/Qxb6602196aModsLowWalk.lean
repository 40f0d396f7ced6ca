/-
  THE WALK OF 'lowerASCII' (function 18) AND OF ITS DOOR (12): it returns the string whose bytes are the argument's, each lowered; nothing that was there turns.
-/
import Derived.Test.Qxb6602196aModsRows
import Derived.Test.Qxb6602196aModsPlain
import Derived.WalkKit
import Derived.ProofKit
import Derived.Below
import Derived.WalkSpells
import Derived.WalkLawsBesides
import Derived.Laws.IdiomStrings
import Derived.Laws.BytesArg
namespace Go.Proofs.Qxb6602196aMods.Low
open Go.ChangeShapes Go.WideShapes Go.ChangeAt Go.RowKit
open Go.Proofs.Qxb6602196aMods.Plain
set_option linter.unusedVariables false

def lowS (s : ByteArray) : ByteArray := strOfNums ((sb s).map low)

/-- What '[]byte(s)' gives: a new row whose first cells are the bytes, each free to be written. -/
theorem to_bytes (s : ByteArray) (w : World) : ∃ (cap : Nat) (o : Obj), (convert 9 30 (.string s)).run Trym.prog w = .ok (.slice (some ⟨w.heap.size, 0, none⟩) s.size cap) (w.alloc o).drew ∧
    (∀ j, j < s.size → (w.alloc o).cell? ⟨w.heap.size, j, none⟩ = some (.int .u8 ((sb s).getD j 0))) ∧ (∀ j, j < s.size → (w.alloc o).frozen? ⟨w.heap.size, j, none⟩ = false) := by
  have h := run_bytes_of_string (P := Trym.prog) w 9 30 5 s Trym.underlying9 Trym.underlying30 Trym.underlying5
  obtain ⟨C, hC⟩ : ∃ C, C = bytesRow s (grownCap w s.size 0 5) := ⟨_, rfl⟩
  rw [← hC] at h
  refine ⟨_, .cells C 5 (C.size, C.size + 1), h, ?_, ?_⟩
  · intro j hj
    rw [cell_of_row (w.alloc (.cells C 5 (C.size, C.size + 1))) w.heap.size j C 5 (C.size, C.size + 1) (heap_alloc_new w _), hC]
    unfold bytesRow
    rw [Array.getElem?_append_left (by simpa using hj), sb_get s j hj, Array.getElem?_map]
    have : s.data[j]? = some (s[j]'hj) := Array.getElem?_eq_getElem hj
    rw [this]; rfl
  · intro j hj
    have hs : j < C.size := by rw [hC]; unfold bytesRow; simp; omega
    have hh := heap_alloc_new w (.cells C 5 (C.size, C.size + 1))
    unfold World.frozen?
    rw [hh]
    simp
    omega

theorem set_next {s : ByteArray} {w : World} {H k : Nat} {c v : Int} (hk : k < s.size) (hc : c = (sb s).getD k 0) (hv : low c = v) (h : ∀ j, j < s.size → w.cell? ⟨H, j, none⟩ = some (.int .u8 (at_ s k j))) :
    ∀ j, j < s.size → (w.setCell ⟨H, k, none⟩ (.int .u8 v)).cell? ⟨H, j, none⟩ = some (.int .u8 (at_ s (k + 1) j)) := by
  intro j hj
  by_cases e : j = k
  · subst e
    rw [at_new, ← hc, hv]
    exact World.cell?_setCell_same _ _ _ (h j hj)
  · rw [at_same s e, World.cell?_setCell_other _ _ _ _ (fun e' => e (congrArg Addr.off e').symm)]
    exact h j hj
theorem stay_next {s : ByteArray} {w : World} {H k : Nat} {c : Int} (hc : c = (sb s).getD k 0) (hv : ¬ (65 ≤ c ∧ c ≤ 90)) (h : ∀ j, j < s.size → w.cell? ⟨H, j, none⟩ = some (.int .u8 (at_ s k j))) :
    ∀ j, j < s.size → w.cell? ⟨H, j, none⟩ = some (.int .u8 (at_ s (k + 1) j)) := by
  intro j hj
  by_cases e : j = k
  · subst e
    rw [at_new, ← hc, low_no hv, hc, ← at_old s j]
    exact h j hj
  · rw [at_same s e]
    exact h j hj

set_option maxHeartbeats 800000 in
theorem lower_any (s : ByteArray) (w : World) (hs : s.size ≤ 1073741824) :
    Calls Trym.prog 18 #[.string s] w fun e w' => e = .returned (.string (lowS s)) ∧ Below w.heap.size w w' := by
  obtain ⟨cap, o, hconv, hcell, hfz⟩ := to_bytes s w
  have HC : Hid (∀ j, j < s.size → (w.alloc o).drew.cell? ⟨w.heap.size, j, none⟩ = some (.int .u8 (at_ s 0 j))) := fun j hj => by rw [at_zero]; exact hcell j hj
  have HF : Hid (∀ j, j < s.size → (w.alloc o).drew.frozen? ⟨w.heap.size, j, none⟩ = false) := hfz
  have HB : Hid (Below w.heap.size w (w.alloc o).drew) := ((Below.refl _ _).alloc (Nat.le_refl _) _).drew
  clear hcell hfz
  go_enter Trym.func18, Trym.ntmps18
  go_wp2
  go_loopw [10] (fun i wr => ∃ k : Nat, k ≤ s.size ∧ i = .int .i64 k ∧ Hid (∀ j, j < s.size → wr.cell? ⟨w.heap.size, j, none⟩ = some (.int .u8 (at_ s k j))) ∧ Hid (∀ j, j < s.size → wr.frozen? ⟨w.heap.size, j, none⟩ = false) ∧ Hid (Below w.heap.size w wr)) (fun i _ => s.size - (intOf i).toNat)
  case atStart => exact ⟨0, Nat.zero_le _, rfl, HC, HF, HB⟩
  case round =>
    obtain ⟨k, hk, rfl, HCr, HFr, HBr⟩ := hrel
    clear HC HF HB hconv
    by_cases hlt : k < s.size
    · obtain ⟨c, hc⟩ : ∃ c, c = (sb s).getD k 0 := ⟨_, rfl⟩
      have hcc := HCr.out k hlt
      have hff := HFr.out k hlt
      rw [at_old, ← hc] at hcc
      have hb0 : 0 ≤ c := by rw [hc, sb_get s k hlt]; exact Int.natCast_nonneg _
      have hb1 : c ≤ 255 := by rw [hc, sb_get s k hlt]; have := (s[k]'hlt).toNat_lt; omega
      have HK : Hid (c = (sb s).getD k 0) := hc
      clear hc
      by_cases hup : 65 ≤ c ∧ c ≤ 90
      · obtain ⟨hu0, hu1⟩ := hup
        go_wp2
        go_roundw
        case rel => exact ⟨k + 1, by omega, by go_num, set_next hlt HK.out (low_yes hu0 hu1) HCr.out, fun j hj => by rw [World.frozen?_setCell]; exact HFr.out j hj, HBr.out.setCell (Nat.le_refl _) _⟩
        case measure => simp [intOf]; omega
      · go_wp2
        all_goals
          go_roundw
          case rel => exact ⟨k + 1, by omega, by go_num, stay_next HK.out hup HCr.out, HFr, HBr⟩
          case measure => simp [intOf]; omega
    · have hback := run_convert_bytes_arg (P := Trym.prog) wr 30 5 Trym.underlying30 Trym.underlying5 w.heap.size 0 s.size cap ((sb s).map low) (by simp [length_sb]) (fun i hi => by rw [Nat.zero_add, ← at_done s hi]; have := HCr.out i hi; rwa [show k = s.size from by omega] at this) 9 Trym.underlying9
      go_wp2
      go_ret
      exact ⟨rfl, HBr.out⟩

theorem door_any (s : ByteArray) (w : World) (hs : s.size ≤ 1073741824) :
    Calls Trym.prog 12 #[.string s] w fun e w' => e = .returned (.string (lowS s)) ∧ Below w.heap.size w w' := by
  go_enter Trym.func12, Trym.ntmps12
  go_wp2_with fail
  refine (lower_any s _ hs).mono ?_
  rintro e w1 ⟨rfl, hb⟩
  go_wp2
  go_ret
  exact ⟨rfl, hb⟩

/-! ### the string that comes back, byte by byte -/
theorem size_lowS (s : ByteArray) : (lowS s).size = s.size := by rw [lowS, strOfNums_size, List.length_map, length_sb]
theorem sb_lowS (s : ByteArray) : sb (lowS s) = (sb s).map low := by
  unfold sb
  rw [lowS, strOfNums_data, List.map_map, List.map_map, sb, List.map_map, List.map_map]
  refine List.map_congr_left fun b _ => ?_
  simp only [Function.comp_apply]
  have := low_le (b.toNat : Int) (by omega) (by have := b.toNat_lt; omega)
  rw [UInt8.toNat_ofNat', Nat.mod_eq_of_lt (by omega)]
  omega
end Go.Proofs.Qxb6602196aMods.Low
