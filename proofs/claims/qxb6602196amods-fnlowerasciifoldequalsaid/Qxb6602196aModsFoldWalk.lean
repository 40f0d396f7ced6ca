/-
  THE WALKS OF 'foldEqualASCII' (15) AND OF THE LAW 'FnLowerASCIIFoldEqual' (function 5).
-/
import Derived.Test.Qxb6602196aModsSpecWalk
namespace Go.Proofs.Qxb6602196aMods.Fold
open Go.ChangeShapes Go.WideShapes Go.ChangeAt Go.RowKit
open Go.Proofs.Qxb6602196aMods.Plain Go.Proofs.Qxb6602196aMods.Low Go.Proofs.Qxb6602196aMods.Spec
set_option linter.unusedVariables false

/-- The two strings are one text but for the case of letters. -/
def foldB (a b : ByteArray) : Bool := decide ((sb a).map low = (sb b).map low)

/-! ### one pair of bytes -/
theorem flip_low : ∀ x : Fin 256, 97 ≤ (x.val ||| 32) ∧ (x.val ||| 32) ≤ 122 → low (x.val : Int) = low ((x.val ^^^ 32 : Nat) : Int) := by decide +kernel
theorem flip_up : ∀ x : Fin 256, 65 ≤ x.val ∧ x.val ≤ 90 → x.val ^^^ (x.val + 32) = 32 ∧ (x.val + 32) ^^^ x.val = 32 ∧ 97 ≤ (x.val ||| 32) ∧ (x.val ||| 32) ≤ 122 ∧ 97 ≤ (x.val + 32 ||| 32) ∧ (x.val + 32 ||| 32) ≤ 122 := by decide +kernel

theorem pair_yes (x y : Nat) (hx : x < 256) (h1 : x ^^^ y = 32) (h2 : 97 ≤ x ||| 32) (h3 : x ||| 32 ≤ 122) : low (x : Int) = low (y : Int) := by
  have e : y = x ^^^ 32 := by rw [← h1, ← Nat.xor_assoc, Nat.xor_self, Nat.zero_xor]
  rw [e]
  exact flip_low ⟨x, hx⟩ ⟨h2, h3⟩
theorem pair_no (x y : Nat) (hx : x < 256) (hy : y < 256) (hne : x ≠ y) (h : low (x : Int) = low (y : Int)) : x ^^^ y = 32 ∧ 97 ≤ x ||| 32 ∧ x ||| 32 ≤ 122 := by
  unfold low at h
  by_cases ux : 65 ≤ x ∧ x ≤ 90
  · have hu := flip_up ⟨x, hx⟩ ux
    simp only at hu
    rw [if_pos (by omega)] at h
    by_cases uy : 65 ≤ y ∧ y ≤ 90
    · rw [if_pos (by omega)] at h; omega
    · rw [if_neg (by omega)] at h
      obtain rfl : y = x + 32 := by omega
      exact ⟨hu.1, hu.2.2.1, hu.2.2.2.1⟩
  · rw [if_neg (by omega)] at h
    by_cases uy : 65 ≤ y ∧ y ≤ 90
    · have hu := flip_up ⟨y, hy⟩ uy
      simp only at hu
      rw [if_pos (by omega)] at h
      obtain rfl : x = y + 32 := by omega
      exact ⟨hu.2.1, hu.2.2.2.2.1, hu.2.2.2.2.2⟩
    · rw [if_neg (by omega)] at h; omega

theorem ret_bool {a b : Bool} (h : a = b) : Ending.returned (.bool a) = .returned (.bool b) := by rw [h]
theorem map_get (a : ByteArray) (k : Nat) (h : k < a.size) : ((sb a).map low)[k]? = some (low ((sb a).getD k 0)) := by
  rw [List.getElem?_map, List.getD, List.getElem?_eq_getElem (by rw [length_sb]; exact h)]
  rfl
theorem fold_no {a b : ByteArray} {k : Nat} (ha : k < a.size) (hb : k < b.size) (h : ¬ low ((sb a).getD k 0) = low ((sb b).getD k 0)) : foldB a b = false := by
  refine decide_eq_false fun e => h ?_
  have := congrArg (fun l : List Int => l[k]?) e
  simp only [map_get a k ha, map_get b k hb, Option.some.injEq] at this
  exact this
theorem fold_yes {a b : ByteArray} (hab : b.size = a.size) (h : ∀ j, j < a.size → low ((sb a).getD j 0) = low ((sb b).getD j 0)) : foldB a b = true := by
  refine decide_eq_true (List.ext_getElem? fun j => ?_)
  by_cases hj : j < a.size
  · rw [map_get a j hj, map_get b j (by omega), h j hj]
  · rw [List.getElem?_eq_none (by simp [length_sb]; omega), List.getElem?_eq_none (by simp [length_sb]; omega)]
theorem fold_size {a b : ByteArray} (h : ¬ a.size = b.size) : foldB a b = false := by
  refine decide_eq_false fun e => h ?_
  have := congrArg List.length e
  simpa [length_sb] using this
theorem next {a b : ByteArray} {k : Nat} (h : ∀ j, j < k → low ((sb a).getD j 0) = low ((sb b).getD j 0)) (e : low ((sb a).getD k 0) = low ((sb b).getD k 0)) : ∀ j, j < k + 1 → low ((sb a).getD j 0) = low ((sb b).getD j 0) := by
  intro j hj
  by_cases hjk : j = k
  · rw [hjk]; exact e
  · exact h j (by omega)

set_option maxHeartbeats 800000 in
theorem fold_same (a b : ByteArray) (w : World) (ha : a.size ≤ 1048576) (hab : b.size = a.size) : Calls Trym.prog 15 #[.string a, .string b] w fun e w' => e = .returned (.bool (foldB a b)) ∧ w' = w := by
  go_enter Trym.func15, Trym.ntmps15
  go_wp2
  go_loop [5] (fun i => ∃ k : Nat, k ≤ a.size ∧ i = .int .i64 k ∧ Hid (∀ j, j < k → low ((sb a).getD j 0) = low ((sb b).getD j 0))) (fun i => a.size - (intOf i).toNat)
  case atStart => exact ⟨0, by omega, rfl, fun j hj => by omega⟩
  case round =>
    obtain ⟨k, hk, rfl, HN⟩ := hrel
    by_cases hlt : k < a.size
    · have i1 := fun wx => str_at a k hlt wx
      have i2 := fun wx => str_at b k (by omega) wx
      obtain ⟨x, hx⟩ : ∃ x, (a[k]'hlt).toNat = x := ⟨_, rfl⟩
      obtain ⟨y, hy⟩ : ∃ y, (b[k]'(by omega)).toNat = y := ⟨_, rfl⟩
      have hx8 : x < 256 := by rw [← hx]; exact (a[k]'hlt).toNat_lt
      have hy8 : y < 256 := by rw [← hy]; exact (b[k]'(by omega)).toNat_lt
      rw [sb_get a k hlt, hx] at i1
      rw [sb_get b k (by omega), hy] at i2
      have HX : Hid ((sb a).getD k 0 = (x : Int)) := by show _ = _; rw [sb_get a k hlt, hx]
      have HY : Hid ((sb b).getD k 0 = (y : Int)) := by show _ = _; rw [sb_get b k (by omega), hy]
      clear hx hy
      have hxo := u8_xor_nat x y hx8 hy8
      have hor := u8_or_nat x 32 hx8 (by omega)
      have HXO : Hid (bits .xor .u8 (x : Int) (y : Int) = ((x ^^^ y : Nat) : Int)) := hxo
      have HOR : Hid (bits .or .u8 (x : Int) 32 = ((x ||| 32 : Nat) : Int)) := hor
      clear hxo hor
      go_wp2
      · have t : ((x : Int) == (y : Int)) = true := by assumption
        have e := beq_iff_eq.1 t
        go_round
        case rel => exact ⟨k + 1, by omega, by go_num, next HN.out (by rw [HX.out, HY.out, e])⟩
        case measure => simp [intOf]; omega
      · have t1 : ((x : Int) == (y : Int)) = false := by assumption
        have t2 : (bits .xor .u8 (x : Int) (y : Int) != 32) = true := by assumption
        have e1 := beq_eq_false_iff_ne.1 t1
        have e2 := bne_iff_ne.1 t2
        rw [HXO.out] at e2
        go_ret
        refine ⟨ret_bool (fold_no hlt (by omega) ?_).symm, rfl⟩
        rw [HX.out, HY.out]
        intro h
        have := (pair_no x y hx8 hy8 (by omega) h).1
        omega
      · have t1 : ((x : Int) == (y : Int)) = false := by assumption
        have t3 : bits .or .u8 (x : Int) 32 < 97 ∨ 122 < bits .or .u8 (x : Int) 32 := by assumption
        have e1 := beq_eq_false_iff_ne.1 t1
        rw [HOR.out] at t3
        go_ret
        refine ⟨ret_bool (fold_no hlt (by omega) ?_).symm, rfl⟩
        rw [HX.out, HY.out]
        intro h
        have := (pair_no x y hx8 hy8 (by omega) h).2
        omega
      · have t1 : ((x : Int) == (y : Int)) = false := by assumption
        have t2 : (bits .xor .u8 (x : Int) (y : Int) != 32) = false := by assumption
        have t3 : 97 ≤ bits .or .u8 (x : Int) 32 ∧ bits .or .u8 (x : Int) 32 ≤ 122 := by assumption
        have e2 : bits .xor .u8 (x : Int) (y : Int) = 32 := by simpa using t2
        rw [HXO.out] at e2
        rw [HOR.out] at t3
        go_round
        case rel => exact ⟨k + 1, by omega, by go_num, next HN.out (by rw [HX.out, HY.out]; exact pair_yes x y hx8 (by omega) (by omega) (by omega))⟩
        case measure => simp [intOf]; omega
      · have t1 : ((x : Int) == (y : Int)) = false := by assumption
        have t3 : bits .or .u8 (x : Int) 32 < 97 := by assumption
        have e1 := beq_eq_false_iff_ne.1 t1
        rw [HOR.out] at t3
        go_ret
        refine ⟨ret_bool (fold_no hlt (by omega) ?_).symm, rfl⟩
        rw [HX.out, HY.out]
        intro h
        have := (pair_no x y hx8 hy8 (by omega) h).2
        omega
    · go_wp2
      go_ret
      exact ⟨ret_bool (fold_yes hab fun j hj => HN.out j (by omega)).symm, rfl⟩

theorem fold_diff (a b : ByteArray) (w : World) (hab : ¬ a.size = b.size) : Calls Trym.prog 15 #[.string a, .string b] w fun e w' => e = .returned (.bool (foldB a b)) ∧ w' = w := by
  have h1 : ((a.size : Int) != (b.size : Int)) = true := by rw [bne_iff_ne]; omega
  have HF : Hid (foldB a b = false) := fold_size hab
  clear hab
  go_enter Trym.func15, Trym.ntmps15
  go_wp2
  go_ret
  exact ⟨ret_bool HF.out.symm, rfl⟩

theorem fold_any (a b : ByteArray) (w : World) (ha : a.size ≤ 1048576) : Calls Trym.prog 15 #[.string a, .string b] w fun e w' => e = .returned (.bool (foldB a b)) ∧ w' = w := by
  by_cases h : a.size = b.size
  · exact fold_same a b w ha h.symm
  · exact fold_diff a b w h

/-- The strings that come back are equal just where the two fold together. -/
theorem same_fold (a b : ByteArray) : ((lowS a).toList == (lowS b).toList) = foldB a b := by
  unfold foldB
  rw [← sb_lowS, ← sb_lowS, ByteArray.toList_eq, ByteArray.toList_eq]
  by_cases h : (lowS a).data.toList = (lowS b).data.toList
  · rw [h, show sb (lowS a) = sb (lowS b) from by unfold sb; rw [h]]
    simp
  · have h1 : ((lowS a).data.toList == (lowS b).data.toList) = false := beq_eq_false_iff_ne.2 h
    rw [h1]
    refine (decide_eq_false fun e => h ?_).symm
    unfold sb at e
    exact (List.map_inj_right fun x y hxy => UInt8.toNat_inj.1 (by omega)).1 e

/-! ### THE LAW -/
theorem fold_long (a b : ByteArray) (w : World) (ha : a.size ≤ 9223372036854775807) (hb : b.size ≤ 9223372036854775807) (h : 1048576 < a.size + b.size) :
    Calls Trym.prog 5 #[.string a, .string b] w fun e w' => e = .returned (.bool true) ∧ Below w.heap.size w w' := by
  go_enter Trym.func5, Trym.ntmps5
  go_wp2
  all_goals (go_ret; exact ⟨rfl, Below.refl _ _⟩)

set_option maxHeartbeats 800000 in
theorem fold_short (a b : ByteArray) (w : World) (h : a.size + b.size ≤ 1048576) :
    Calls Trym.prog 5 #[.string a, .string b] w fun e w' => e = .returned (.bool true) ∧ Below w.heap.size w w' := by
  go_enter Trym.func5, Trym.ntmps5
  go_wp2_with (first | (go_at_call 14; go_in))
  refine (door_any a _ (by omega)).mono ?_
  rintro e w1 ⟨rfl, hb1⟩
  go_wp2_with fail
  refine (door_any b _ (by omega)).mono ?_
  rintro e w2 ⟨rfl, hb2⟩
  go_wp2_with fail
  have hsf := same_fold a b
  obtain ⟨S, hS⟩ : ∃ S, S = foldB a b := ⟨_, rfl⟩
  rw [hsf, ← hS]
  have HS : Hid (S = foldB a b) := hS
  clear hsf hS
  refine (fold_any a b _ (by omega)).mono ?_
  rintro e w3 ⟨rfl, rfl⟩
  rw [← HS.out]
  go_wp2
  go_ret
  refine ⟨?_, hb1.trans (hb2.mono hb1.size)⟩
  cases S <;> rfl
end Go.Proofs.Qxb6602196aMods.Fold
