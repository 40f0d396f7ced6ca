/-
  THE WALK OF THE LAW 'FnPrivateUseExtend' (function 3).
-/
import Derived.Test.Qxb6602196aModsUseWalk
namespace Go.Proofs.Qxb6602196aMods.Ext
open Go.ChangeShapes Go.WideShapes Go.ChangeAt Go.RowKit
open Go.Proofs.Qxb6602196aMods.Use
set_option linter.unusedVariables false

theorem info9 : (Trym.prog.info? 9).map (fun i => (i.zero, i.size, i.bytes)) = some (some (.string ByteArray.empty), 1, 16) := by kernel_rfl

theorem make_row (n : Nat) (hn : n ≤ 1048576) : ∃ Z : List Value, Z.length = n + 1 ∧ ∀ w : World,
    (Instr.makeSlice 22 (.int .i64 ((n : Int) + 1)) (.int .i64 ((n : Int) + 1))).run Trym.prog w = .ok (.slice (some ⟨w.heap.size, 0, none⟩) (n + 1) (n + 1)) (w.alloc (.cells Z.toArray 9)) := by
  obtain ⟨i, hi, hz0, hz1, hz2⟩ := info_parts info9
  refine ⟨(madeCells (Value.string ByteArray.empty).cells (n + 1)).toList, by simp [size_madeCells], fun w => ?_⟩
  have h := run_make (P := Trym.prog) w 22 9 i (.string ByteArray.empty) Trym.underlying22 hi hz0 .i64 .i64 ((n : Int) + 1) ((n : Int) + 1) (by omega) (by omega) (by rw [hz2]; omega) (by omega)
  rw [hz1, show ((n : Int) + 1).toNat = n + 1 from by omega] at h
  simpa using h

/-! ### the plain law -/
theorem pu_ext1 {ss : List ByteArray} {t : ByteArray} (h : ss.length = 1) : pu (ss ++ [t]) = (isx (ss.getD 0 ByteArray.empty) && okS t) := by
  match ss, h with
  | [x], _ => simp [pu]
theorem pu_ext {ss : List ByteArray} {t : ByteArray} (h : 2 ≤ ss.length) : pu (ss ++ [t]) = (pu ss && okS t) := by
  match ss, h with
  | x :: y :: r, _ => simp [pu, Bool.and_assoc]
theorem pu_ext0 {t : ByteArray} : pu [t] = false := pu_one (by simp)

/-- The cells of the new array behind k rounds. -/
def cv (ss : List ByteArray) (Z : List Value) (k j : Nat) : Value := if j < k then .string (ss.getD j ByteArray.empty) else Z.getD j undef
theorem cv_new (ss : List ByteArray) (Z : List Value) (k : Nat) : cv ss Z (k + 1) k = .string (ss.getD k ByteArray.empty) := by simp [cv]
theorem cv_same (ss : List ByteArray) (Z : List Value) {k j : Nat} (h : j ≠ k) : cv ss Z (k + 1) j = cv ss Z k j := by
  unfold cv
  by_cases hj : j < k
  · rw [if_pos hj, if_pos (by omega)]
  · rw [if_neg hj, if_neg (by omega)]
theorem cells_made {w : World} {Z : List Value} {j : Nat} (h : j < Z.length) (ss : List ByteArray) : (w.alloc (.cells Z.toArray 9)).cell? ⟨w.heap.size, j, none⟩ = some (cv ss Z 0 j) := by
  rw [cell_of_row (w.alloc (.cells Z.toArray 9)) w.heap.size j Z.toArray 9 (0, 0) (heap_alloc_new w _)]
  simp [cv, List.getD, h]
theorem set_next {w : World} {ss : List ByteArray} {Z : List Value} {G k N : Nat} {y : ByteArray} (hk : k < N) (hy : y = ss.getD k ByteArray.empty) (h : ∀ j, j < N → w.cell? ⟨G, j, none⟩ = some (cv ss Z k j)) :
    ∀ j, j < N → (w.setCell ⟨G, k, none⟩ (.string y)).cell? ⟨G, j, none⟩ = some (cv ss Z (k + 1) j) := by
  intro j hj
  by_cases e : j = k
  · subst e
    rw [cv_new, ← hy]
    exact World.cell?_setCell_same _ _ _ (h j hj)
  · rw [cv_same ss Z e, World.cell?_setCell_other _ _ _ _ (fun e' => e (congrArg Addr.off e').symm)]
    exact h j hj
theorem cells_all {w : World} {ss : List ByteArray} {t : ByteArray} {Z : List Value} {G n : Nat} (hl : ss.length = n) (h : ∀ j, j < n + 1 → w.cell? ⟨G, j, none⟩ = some (cv ss Z n j)) :
    ∀ j, j < n + 1 → (w.setCell ⟨G, n, none⟩ (.string t)).cell? ⟨G, j, none⟩ = some (.string ((ss ++ [t]).getD j ByteArray.empty)) := by
  intro j hj
  by_cases e : j = n
  · subst e
    rw [show (ss ++ [t]).getD j ByteArray.empty = t from by subst hl; simp [List.getD]]
    exact World.cell?_setCell_same _ _ _ (h j hj)
  · rw [World.cell?_setCell_other _ _ _ _ (fun e' => e (congrArg Addr.off e').symm), h j hj, cv, if_pos (by omega)]
    simp [List.getD, List.getElem?_append_left (show j < ss.length by omega)]
theorem sizes_all {ss : List ByteArray} {t : ByteArray} {n : Nat} (hl : ss.length = n) (h : Small n ss t) : ∀ j, ((ss ++ [t]).getD j ByteArray.empty).size ≤ 1048576 := by
  intro j
  by_cases h1 : j < n
  · have : (ss ++ [t]).getD j ByteArray.empty = ss.getD j ByteArray.empty := by simp [List.getD, List.getElem?_append_left (show j < ss.length by omega)]
    rw [this]; exact h.2.2 j h1
  · by_cases h2 : j = n
    · rw [show (ss ++ [t]).getD j ByteArray.empty = t from by subst h2; subst hl; simp [List.getD]]; exact h.2.1
    · rw [show (ss ++ [t]).getD j ByteArray.empty = ByteArray.empty from by rw [List.getD, List.getElem?_eq_none (by simp; omega)]; rfl]
      decide
theorem sizes_ss {ss : List ByteArray} {t : ByteArray} {n : Nat} (hl : ss.length = n) (h : Small n ss t) : ∀ j, (ss.getD j ByteArray.empty).size ≤ 1048576 := by
  intro j
  by_cases h1 : j < n
  · exact h.2.2 j h1
  · rw [show ss.getD j ByteArray.empty = ByteArray.empty from by rw [List.getD, List.getElem?_eq_none (by omega)]; rfl]
    decide

set_option maxHeartbeats 1600000 in
theorem ext_some (b off n cap : Nat) (ss : List ByteArray) (t : ByteArray) (w : World) (hl : ss.length = n) (hn1 : 1 ≤ n) (hn : n ≤ 9223372036854775807) (ht : t.size ≤ 9223372036854775807)
    (hcell : ∀ j, j < n → w.cell? ⟨b, off + j, none⟩ = some (.string (ss.getD j ByteArray.empty))) :
    Calls Trym.prog 3 #[.slice (some ⟨b, off, none⟩) n cap, .string t] w fun e w' => e = .returned (.bool true) ∧ Below w.heap.size w w' := by
  have HL : Hid (ss.length = n) := hl
  have HC : Hid (∀ j, j < n → w.cell? ⟨b, off + j, none⟩ = some (.string (ss.getD j ByteArray.empty))) := hcell
  have hbw : b < w.heap.size := World.block_lt_of_cell? w _ (hcell 0 (by omega))
  have HR : Hid (Rd w (some ⟨b, off, none⟩) n ss) := ⟨hl, .inr ⟨b, off, rfl, hcell⟩⟩
  clear hl hcell
  go_enter Trym.func3, Trym.ntmps3
  go_wp2_with fail
  refine (zz_any _ n cap ss t _ hn ht HR.out).mono ?_
  rintro e w' (⟨rfl, hw⟩ | ⟨rfl, hw, hs⟩)
  · obtain rfl : w = w' := hw.symm
    go_wp2
    go_ret
    exact ⟨rfl, Below.refl _ _⟩
  obtain rfl : w = w' := hw.symm
  have hsn := hs.1
  have hst := hs.2.1
  have HS : Hid (Small n ss t) := hs
  clear hs
  by_cases hbig : n ≤ 65536
  · obtain ⟨Z, hZ, hmk⟩ := make_row n (by omega)
    have HZ : Hid (Z.length = n + 1) := hZ
    clear hZ
    go_wp2_with fail
    refine (bytes_any _ n cap ss _ (by omega) HR.out HS.out.2.2).mono ?_
    rintro e w' ⟨T, hT0, hT1, rfl, hw⟩
    obtain rfl : w = w' := hw.symm
    by_cases hT : T + 16 + (t.size : Int) ≤ 1048576
    · go_wp2_with fail
      have HC0 : Hid (∀ j, j < n + 1 → (w.alloc (.cells Z.toArray 9)).cell? ⟨w.heap.size, j, none⟩ = some (cv ss Z 0 j)) := fun j hj => cells_made (by rw [HZ.out]; exact hj) ss
      have HF0 : Hid (∀ j, (w.alloc (.cells Z.toArray 9)).frozen? ⟨w.heap.size, j, none⟩ = false) := fun j => World.frozen?_alloc_at Z.toArray 9 w.heap.size j rfl
      have HB0 : Hid (Below w.heap.size w (w.alloc (.cells Z.toArray 9))) := (Below.refl _ _).alloc (Nat.le_refl _) _
      clear hmk
      go_loopw [7] (fun i wr => ∃ k : Nat, k ≤ n ∧ i = .int .i64 k ∧ Hid (∀ j, j < n + 1 → wr.cell? ⟨w.heap.size, j, none⟩ = some (cv ss Z k j)) ∧ Hid (∀ j, wr.frozen? ⟨w.heap.size, j, none⟩ = false) ∧ Hid (Below w.heap.size w wr)) (fun i _ => n - (intOf i).toNat)
      case atStart => exact ⟨0, Nat.zero_le _, rfl, HC0, HF0, HB0⟩
      case round =>
        obtain ⟨k, hk, rfl, HCr, HFr, HBr⟩ := hrel
        clear HC0 HF0 HB0
        by_cases hlt : k < n
        · obtain ⟨y, hy⟩ : ∃ y, y = ss.getD k ByteArray.empty := ⟨_, rfl⟩
          have hc : wr.cell? ⟨b, off + k, none⟩ = some (.string y) := by rw [HBr.out.cell hbw, hy]; exact HC.out k hlt
          have hd := HCr.out k (by omega)
          have hf := HFr.out k
          have HY : Hid (y = ss.getD k ByteArray.empty) := hy
          generalize cv ss Z k k = ov at hd
          have hk1 : (k : Int) < (n : Int) := by omega
          have hk2 : (k : Int) < (n : Int) + 1 := by omega
          clear hy
          go_wp2
          go_roundw
          case rel => exact ⟨k + 1, by omega, by go_num, set_next (by omega) HY.out HCr.out, fun j => by rw [World.frozen?_setCell]; exact HFr.out j, HBr.out.setCell (Nat.le_refl _) _⟩
          case measure => simp [intOf]; omega
        · obtain rfl : k = n := by omega
          have hd := HCr.out k (by omega)
          have hf := HFr.out k
          have HA : Hid (∀ j, j < k + 1 → (wr.setCell ⟨w.heap.size, k, none⟩ (.string t)).cell? ⟨w.heap.size, j, none⟩ = some (.string ((ss ++ [t]).getD j ByteArray.empty))) := cells_all HL.out HCr.out
          have HBf : Hid (Below w.heap.size w (wr.setCell ⟨w.heap.size, k, none⟩ (.string t))) := HBr.out.setCell (Nat.le_refl _) _
          generalize cv ss Z k k = ov at hd
          have hk2 : (k : Int) < (k : Int) + 1 := by omega
          go_wp2_with fail
          clear hd hf
          generalize wr.setCell ⟨w.heap.size, k, none⟩ (.string t) = wf at *
          clear HCr HFr HBr
          refine (door_any w.heap.size 0 (k + 1) (k + 1) (ss ++ [t]) wf (by rw [List.length_append, HL.out]; rfl) (by omega) (by omega) (by omega) (fun j hj => by rw [Nat.zero_add]; exact HA.out j hj) (sizes_all HL.out HS.out)).mono ?_
          rintro e w2 ⟨rfl, hw2⟩
          obtain rfl : wf = w2 := hw2.symm
          obtain ⟨g, hg⟩ : ∃ g, g = pu (ss ++ [t]) := ⟨_, rfl⟩
          rw [← hg]
          have HG : Hid (g = pu (ss ++ [t])) := hg
          clear hg
          by_cases hk1 : k = 1
          · obtain ⟨x, hx⟩ : ∃ x, x = ss.getD 0 ByteArray.empty := ⟨_, rfl⟩
            have hc0 : wf.cell? ⟨w.heap.size, 0, none⟩ = some (.string x) := by
              have h0 : (0 : Nat) < ss.length := by have := HL.out; omega
              rw [HA.out 0 (by omega), hx, List.getD, List.getD, List.getElem?_append_left h0]
            have HGX : Hid (g = (isx x && okS t)) := by show _ = _; rw [HG.out, pu_ext1 (by rw [HL.out]; exact hk1), hx]
            have hke : ((k : Int) == 1) = true := beq_iff_eq.2 (by omega)
            have hk0 : (0 : Int) < (k : Int) := by omega
            clear hx hk1
            by_cases hq : (x.toList == [120]) = true
            · have HGT : Hid (g = okS t) := by
                show _ = _
                rw [HGX.out, show isx x = true from hq, Bool.true_and]
              go_wp2_with fail
              refine (good_any t wf (by omega)).mono ?_
              rintro e w3 ⟨rfl, hw3⟩
              obtain rfl : wf = w3 := hw3.symm
              rw [← HGT.out]
              go_wp2
              go_ret
              exact ⟨ret_bool (by cases g <;> rfl), HBf.out⟩
            · have hq' : (x.toList == [120]) = false := Bool.eq_false_iff.2 hq
              have HGT : Hid (g = false) := by
                show _ = _
                rw [HGX.out, show isx x = false from hq', Bool.false_and]
              clear hq
              go_wp2
              go_ret
              exact ⟨ret_bool (by rw [HGT.out]; rfl), HBf.out⟩
          · have hke : ((k : Int) == 1) = false := beq_eq_false_iff_ne.2 (by omega)
            have hk2a : (2 : Int) ≤ (k : Int) := by omega
            have HK2 : Hid (2 ≤ k) := by show _ ≤ _; omega
            clear hk1
            go_wp2_with fail
            refine (door_any w.heap.size 0 k (k + 1) ss wf HL.out (by omega) (by omega) (by omega) (fun j hj => by rw [Nat.zero_add, HA.out j (by omega), List.getD, List.getD, List.getElem?_append_left (by rw [HL.out]; exact hj)]) (sizes_ss HL.out HS.out)).mono ?_
            rintro e w3 ⟨rfl, hw3⟩
            obtain rfl : wf = w3 := hw3.symm
            have hgp : g = (pu ss && okS t) := by rw [HG.out, pu_ext (by rw [HL.out]; exact HK2.out)]
            cases hp : pu ss with
            | true =>
              have HGT : Hid (g = okS t) := by
                show _ = _
                rw [hgp, hp, Bool.true_and]
              clear hgp hp
              go_wp2_with fail
              refine (good_any t wf (by omega)).mono ?_
              rintro e w3 ⟨rfl, hw3⟩
              obtain rfl : wf = w3 := hw3.symm
              rw [← HGT.out]
              go_wp2
              go_ret
              exact ⟨ret_bool (by cases g <;> rfl), HBf.out⟩
            | false =>
              have HGT : Hid (g = false) := by
                show _ = _
                rw [hgp, hp, Bool.false_and]
              clear hgp hp
              go_wp2
              go_ret
              exact ⟨ret_bool (by rw [HGT.out]; rfl), HBf.out⟩
    · go_wp2
      go_ret
      exact ⟨rfl, Below.refl _ _⟩
  · go_wp2
    go_ret
    exact ⟨rfl, Below.refl _ _⟩

set_option maxHeartbeats 1600000 in
theorem ext_none (a : Option Addr) (cap : Nat) (t : ByteArray) (w : World) (ht : t.size ≤ 9223372036854775807) :
    Calls Trym.prog 3 #[.slice a 0 cap, .string t] w fun e w' => e = .returned (.bool true) ∧ Below w.heap.size w w' := by
  have HR : Hid (Rd w a 0 []) := ⟨rfl, .inl rfl⟩
  go_enter Trym.func3, Trym.ntmps3
  go_wp2_with fail
  refine (zz_any _ 0 cap [] t _ (by omega) ht HR.out).mono ?_
  rintro e w' (⟨rfl, hw⟩ | ⟨rfl, hw, hs⟩)
  · obtain rfl : w = w' := hw.symm
    go_wp2
    go_ret
    exact ⟨rfl, Below.refl _ _⟩
  obtain rfl : w = w' := hw.symm
  have hst := hs.2.1
  have HS : Hid (Small 0 [] t) := hs
  clear hs
  obtain ⟨Z, hZ, hmk⟩ := make_row 0 (by omega)
  have HZ : Hid (Z.length = 1) := hZ
  have hmk1 : ∀ wx : World, (Instr.makeSlice 22 (.int .i64 1) (.int .i64 1)).run Trym.prog wx = .ok (.slice (some ⟨wx.heap.size, 0, none⟩) 1 1) (wx.alloc (.cells Z.toArray 9)) := fun wx => by simpa using hmk wx
  clear hZ hmk
  go_wp2_with fail
  refine (bytes_any _ 0 cap [] _ (by omega) HR.out HS.out.2.2).mono ?_
  rintro e w' ⟨T, hT0, hT1, rfl, hw⟩
  obtain rfl : w = w' := hw.symm
  by_cases hT : T + 16 + (t.size : Int) ≤ 1048576
  · go_wp2_with fail
    have HC0 : Hid (∀ j, j < 0 + 1 → (w.alloc (.cells Z.toArray 9)).cell? ⟨w.heap.size, j, none⟩ = some (cv [] Z 0 j)) := fun j hj => cells_made (by rw [HZ.out]; exact hj) []
    have hf : (w.alloc (.cells Z.toArray 9)).frozen? ⟨w.heap.size, 0, none⟩ = false := World.frozen?_alloc_at Z.toArray 9 w.heap.size 0 rfl
    have HB0 : Hid (Below w.heap.size w (w.alloc (.cells Z.toArray 9))) := (Below.refl _ _).alloc (Nat.le_refl _) _
    clear hmk1
    generalize w.alloc (.cells Z.toArray 9) = w1 at *
    have hd := HC0.out 0 (by omega)
    generalize cv [] Z 0 0 = ov at hd
    have HA : Hid (∀ j, j < 0 + 1 → (w1.setCell ⟨w.heap.size, 0, none⟩ (.string t)).cell? ⟨w.heap.size, j, none⟩ = some (.string (([] ++ [t] : List ByteArray).getD j ByteArray.empty))) := cells_all rfl HC0.out
    have HBf : Hid (Below w.heap.size w (w1.setCell ⟨w.heap.size, 0, none⟩ (.string t))) := HB0.out.setCell (Nat.le_refl _) _
    refine wp_loop_rounds 1 ?_
    rw [rounds_succ]
    go_wp2_with fail
    clear hd hf
    generalize w1.setCell ⟨w.heap.size, 0, none⟩ (.string t) = wf at *
    refine (door_any w.heap.size 0 1 1 [t] wf rfl (by omega) (by omega) (by omega) (fun j hj => by rw [Nat.zero_add]; exact HA.out j hj) (sizes_all (ss := []) rfl HS.out)).mono ?_
    rintro e w2 ⟨rfl, hw2⟩
    obtain rfl : wf = w2 := hw2.symm
    rw [pu_ext0]
    go_wp2
    go_ret
    exact ⟨rfl, HBf.out⟩
  · go_wp2
    go_ret
    exact ⟨rfl, Below.refl _ _⟩

theorem ext_any (a : Option Addr) (n cap : Nat) (ss : List ByteArray) (t : ByteArray) (w : World) (hn : n ≤ 9223372036854775807) (ht : t.size ≤ 9223372036854775807) (h : Rd w a n ss) :
    Calls Trym.prog 3 #[.slice a n cap, .string t] w fun e w' => e = .returned (.bool true) ∧ Below w.heap.size w w' := by
  by_cases h0 : n = 0
  · subst h0
    exact ext_none a cap t w ht
  · obtain ⟨hl, h1 | ⟨b, off, rfl, hc⟩⟩ := h
    · exact absurd h1 h0
    · exact ext_some b off n cap ss t w hl (by omega) hn ht hc
end Go.Proofs.Qxb6602196aMods.Ext
