/-
  THE WALKS OF 'lowerHexDigitSsb1' (24) AND OF THE STRICT READER 'readJSONStringSsb1' (13) on a text that 'appendJSONString' made.
-/
import Derived.Test.Qxb6600726aModsAppWalk
import Derived.Test.Qxb6600726aModsReadPlain
namespace Go.Proofs.Qxb6600726aMods.Read
open Go.ChangeShapes Go.WideShapes Go.ChangeAt Go.RowKit
open Go.Proofs.Qxb6600726aMods.Nest Go.Proofs.Qxb6600726aMods.Clone Go.Proofs.Qxb6600726aMods.Json Go.Proofs.Qxb6600726aMods.App Go.Proofs.Qxb6600726aMods.ReadP
set_option linter.unusedVariables false

theorem hex_low (x : Int) (w : World) (h0 : 48 ≤ x) (h1 : x ≤ 57) : Calls Trym.prog 24 #[.int .u8 x] w fun e w' => e = .returned (.int .i64 (x - 48)) ∧ w' = w := by
  go_enter Trym.func24, Trym.ntmps24
  go_wp2
  go_ret
  exact ⟨rfl, rfl⟩
theorem hex_high (x : Int) (w : World) (h0 : 97 ≤ x) (h1 : x ≤ 102) : Calls Trym.prog 24 #[.int .u8 x] w fun e w' => e = .returned (.int .i64 (x - 87)) ∧ w' = w := by
  go_enter Trym.func24, Trym.ntmps24
  go_wp2
  go_ret
  exact ⟨ret_int (by omega), rfl⟩
/-- The digit d's character is read as d. -/
theorem hex_any (x d : Int) (w : World) (hx : x = hexd d) (h0 : 0 ≤ d) (h1 : d ≤ 15) : Calls Trym.prog 24 #[.int .u8 x] w fun e w' => e = .returned (.int .i64 d) ∧ w' = w := by
  unfold hexd at hx
  by_cases h : d < 10
  · rw [if_pos h] at hx
    exact (hex_low x w (by omega) (by omega)).mono fun e w' ⟨he, hw⟩ => ⟨by rw [he]; exact ret_int (by omega), hw⟩
  · rw [if_neg h] at hx
    exact (hex_high x w (by omega) (by omega)).mono fun e w' ⟨he, hw⟩ => ⟨by rw [he]; exact ret_int (by omega), hw⟩

theorem pnext {n k P m : Nat} {s : ByteArray} (h : k < s.size) (hP : P = at_ n s k) {x : List Int} (hx : enc1 ((s[k]'h).toNat : Int) = x) (hm : x.length = m) : Hid (P + m = at_ n s (k + 1)) := by
  show _ = _
  rw [at_next h hx, hP, hm]
theorem onext {w : World} {B k d c : Nat} {s : ByteArray} (h : k < s.size) {v : Int} (hv : ((s[k]'h).toNat : Int) = v) (ho : w.ownsRow B 5 1 (.slice (some ⟨d, 0, none⟩) (k + 1) c) (k + 1) (((sb s).take k).map (Value.int .u8) ++ [.int .u8 v])) :
    w.ownsRow B 5 1 (.slice (some ⟨d, 0, none⟩) (k + 1) c) (k + 1) (((sb s).take (k + 1)).map (Value.int .u8)) := by
  rw [sb_take s k h, hv, List.map_append]
  exact ho
theorem bnext {w0 w w' : World} {n : Nat} {v : Value} {xs : List Value} {o : Obj} (hb : Below w0.heap.size w0 w) (ho : w.ownsRow w0.heap.size 5 1 v n xs) (hg : (w.alloc o).grownBy w' v.ownBlock) : Below w0.heap.size w0 w' :=
  (hb.alloc hb.size o).grown hg (by have := hb.size; simp; omega) fun k hk => (ho.lt k hk).1
theorem cread {w w' : World} {g N n k P j : Nat} {zs L : List Int} {s : ByteArray} (hb : Below w.heap.size w w') (hg : g < w.heap.size) (hc : ∀ j, j < N → w.cell? ⟨g, j, none⟩ = some (.int .u8 (L.getD j 0)))
    (hL : out zs (sb s) = L) (hP : P = at_ n s k) (hz : zs.length = n) (h : k < s.size) {x : List Int} (hx : enc1 ((s[k]'h).toNat : Int) = x) (hj : j < x.length) (hN : P + j < N) : w'.cell? ⟨g, P + j, none⟩ = some (.int .u8 (x.getD j 0)) := by
  rw [hb.cell hg, hc _ hN, ← hL, hP, out_at hz h hx hj]

/-- The digits of the u-escape of x; what has been read behind j of them. -/
def dg (x : Int) (j : Nat) : Int := if j = 2 then x / 16 else if j = 3 then x % 16 else 0
def gone (x : Int) (j : Nat) : Int := if j ≤ 2 then 0 else if j = 3 then x / 16 else x
theorem dg_le (x : Int) (j : Nat) (h0 : 0 ≤ x) (h1 : x < 32) : 0 ≤ dg x j ∧ dg x j ≤ 15 := by unfold dg; split <;> (try split) <;> omega
theorem gone_le (x : Int) (j : Nat) (h0 : 0 ≤ x) (h1 : x < 32) : 0 ≤ gone x j ∧ gone x j ≤ 31 := by unfold gone; split <;> (try split) <;> omega
theorem gone_next (x : Int) (j : Nat) (h0 : 0 ≤ x) (h1 : x < 32) (hj : j < 4) : gone x (j + 1) = gone x j * 16 + dg x j := by
  match j, hj with
  | 0, _ => simp [gone, dg]
  | 1, _ => simp [gone, dg]
  | 2, _ => simp [gone, dg]
  | 3, _ => simp [gone, dg]; omega

set_option maxRecDepth 100000 in
set_option maxHeartbeats 3200000 in
theorem read_any (g N cap n : Nat) (zs L : List Int) (s : ByteArray) (w : World) (hL : out zs (sb s) = L) (hN : L.length = N) (hz : zs.length = n) (hn : n ≤ 16777216) (hs : s.size ≤ 16777216)
    (hcell : ∀ j, j < N → w.cell? ⟨g, j, none⟩ = some (.int .u8 (L.getD j 0))) (hg : g < w.heap.size) :
    Calls Trym.prog 13 #[.slice (some ⟨g, 0, none⟩) N cap, .int .i64 n] w fun e w' => ∃ a c, e = .returned (.tuple #[.slice a s.size c, .int .i64 N, .bool true]) ∧
      w'.ownsRow w.heap.size 5 1 (.slice a s.size c) s.size ((sb s).map (Value.int .u8)) ∧ Below w.heap.size w w' := by
  obtain ⟨i0, hi, hz0, hz1, hz2⟩ := info_parts info5
  have HI : Hid (Trym.prog.info? 5 = some i0) := hi
  have HZ : Hid (i0.zero = some (.int .u8 0)) := hz0
  have H1 : Hid (i0.size = 1) := hz1
  have H2 : Hid (i0.bytes = 1) := hz2
  clear hi hz1 hz2 hz0
  have hend := at_end (s := s) hz
  rw [hL, hN] at hend
  have hhead := at_head (s := s) hz
  rw [hL] at hhead
  have hle := at_le (n := n) (s := s) (k := s.size)
  have hN2 : N ≤ 200000000 := by omega
  have hnN : n < N := by omega
  have hc0 := hcell n hnN
  rw [hhead] at hc0
  have HCELL : Hid (∀ j, j < N → w.cell? ⟨g, j, none⟩ = some (.int .u8 (L.getD j 0))) := hcell
  have HEND : Hid (at_ n s s.size + 1 = N ∧ L.getD (at_ n s s.size) 0 = 34) := hend
  have HL : Hid (out zs (sb s) = L) := hL
  have HN : Hid (L.length = N) := hN
  have HZL : Hid (zs.length = n) := hz
  clear hcell hend hhead hle hL hN hz
  have i1 : (n : Int) < (N : Int) := by omega
  have f1 : decide ((n : Int) < 0) = false := by simp
  have f2 : decide (N ≤ n) = false := by simp; omega
  go_enter Trym.func13, Trym.ntmps13
  go_wp2
  go_loopw [7, 8] (fun x i wr => ∃ (k P d c : Nat), k ≤ s.size ∧ i = .int .i64 P ∧ x = .slice (some ⟨d, 0, none⟩) k c ∧ Hid (P = at_ n s k) ∧ P < N ∧ k ≤ P ∧
      wr.ownsRow w.heap.size 5 1 (.slice (some ⟨d, 0, none⟩) k c) k (((sb s).take k).map (Value.int .u8)) ∧ Below w.heap.size w wr) (fun _ i _ => N - (intOf i).toNat)
  case atStart =>
    refine ⟨0, n + 1, w.heap.size, 0, by omega, by go_num, rfl, at_zero.symm, by have := HEND.out.1; have := (at_le (n := n) (s := s) (k := s.size)).2; omega, by omega, ?_, (Below.refl _ _).alloc (Nat.le_refl _) _⟩
    exact World.ownsRow_made w #[] 0 (Nat.le_refl _) (by unfold maxLen; omega) rfl
  case round =>
    obtain ⟨k, P, d, c, hk, rfl, rfl, HP, hPN, hkP, hown, hbel⟩ := hrel
    have hwz := hbel.size
    by_cases hlt : k < s.size
    · have hb0 : (0 : Int) ≤ (s[k].toNat : Int) := Int.natCast_nonneg _
      have hb1 : (s[k].toNat : Int) ≤ 255 := by have := s[k].toNat_lt; omega
      rcases (show (s[k].toNat : Int) = 34 ∨ (s[k].toNat : Int) = 92 ∨ (s[k].toNat : Int) = 8 ∨ (s[k].toNat : Int) = 12 ∨ (s[k].toNat : Int) = 10 ∨ (s[k].toNat : Int) = 13 ∨ (s[k].toNat : Int) = 9 ∨
        (¬ (s[k].toNat : Int) = 8 ∧ ¬ (s[k].toNat : Int) = 12 ∧ ¬ (s[k].toNat : Int) = 10 ∧ ¬ (s[k].toNat : Int) = 13 ∧ ¬ (s[k].toNat : Int) = 9 ∧ (s[k].toNat : Int) < 32) ∨
        (¬ (s[k].toNat : Int) = 34 ∧ ¬ (s[k].toNat : Int) = 92 ∧ 32 ≤ (s[k].toNat : Int)) from by omega) with hcs | hcs | hcs | hcs | hcs | hcs | hcs | hcs | hcs
      · -- the byte 34: a backslash and 34
        have HE : Hid (enc1 (s[k].toNat : Int) = [92, 34]) := by show _ = _; rw [hcs]; decide
        have hfit := at_fits HZL.out hlt HE.out
        rw [HL.out, HN.out, ← HP.out] at hfit
        simp only [List.length_cons, List.length_nil] at hfit
        have c1 : wr.cell? ⟨g, P, none⟩ = some (.int .u8 92) := cread hbel hg HCELL.out HL.out HP.out HZL.out hlt HE.out (j := 0) (by decide) (by omega)
        have c2 : wr.cell? ⟨g, P + 1, none⟩ = some (.int .u8 34) := cread hbel hg HCELL.out HL.out HP.out HZL.out hlt HE.out (j := 1) (by decide) (by omega)
        have j1 : (P : Int) < (N : Int) := by omega
        have j2 : (P : Int) + 1 < (N : Int) := by omega
        have j3 : P + 2 < N := by omega
        have HV : Hid ((s[k].toNat : Int) = 34) := hcs
        clear hcs hb0 hb1 hfit
        go_wp2_with (at_builtin; refine wpList_append_lies _ rfl (.tmp 113) (.tmp 116) 22 rfl w.heap.size 5 i0 (.int .u8 0) 1 1 Trym.underlying22 HI.out HZ.out H1.out H2.out rfl (by omega) _ k (((sb s).take k).map (Value.int .u8)) rfl (hown.alloc _) ⟨wr.heap.size, 0, none⟩ 1 1 [.int .u8 34] rfl rfl (cell_one_new _ _ _) (by simp [Value.oneCell']) (by omega) (by unfold maxLen; omega) (by omega) (by simp; omega) (wr.heap.size + 1) (by simp) ?_; intro g2 cap2 w2 hown2 hg2 hat2 hlt2)
        go_roundw
        case rel => exact ⟨k + 1, P + 2, g2, cap2, by omega, by go_num, rfl, pnext hlt HP.out HE.out rfl, by omega, by omega, onext hlt HV.out hown2, bnext hbel hown hg2⟩
        case measure => simp [intOf]; omega
      · -- the byte 92: a backslash and 92
        have HE : Hid (enc1 (s[k].toNat : Int) = [92, 92]) := by show _ = _; rw [hcs]; decide
        have hfit := at_fits HZL.out hlt HE.out
        rw [HL.out, HN.out, ← HP.out] at hfit
        simp only [List.length_cons, List.length_nil] at hfit
        have c1 : wr.cell? ⟨g, P, none⟩ = some (.int .u8 92) := cread hbel hg HCELL.out HL.out HP.out HZL.out hlt HE.out (j := 0) (by decide) (by omega)
        have c2 : wr.cell? ⟨g, P + 1, none⟩ = some (.int .u8 92) := cread hbel hg HCELL.out HL.out HP.out HZL.out hlt HE.out (j := 1) (by decide) (by omega)
        have j1 : (P : Int) < (N : Int) := by omega
        have j2 : (P : Int) + 1 < (N : Int) := by omega
        have j3 : P + 2 < N := by omega
        have HV : Hid ((s[k].toNat : Int) = 92) := hcs
        clear hcs hb0 hb1 hfit
        go_wp2_with (at_builtin; refine wpList_append_lies _ rfl (.tmp 113) (.tmp 116) 22 rfl w.heap.size 5 i0 (.int .u8 0) 1 1 Trym.underlying22 HI.out HZ.out H1.out H2.out rfl (by omega) _ k (((sb s).take k).map (Value.int .u8)) rfl (hown.alloc _) ⟨wr.heap.size, 0, none⟩ 1 1 [.int .u8 92] rfl rfl (cell_one_new _ _ _) (by simp [Value.oneCell']) (by omega) (by unfold maxLen; omega) (by omega) (by simp; omega) (wr.heap.size + 1) (by simp) ?_; intro g2 cap2 w2 hown2 hg2 hat2 hlt2)
        go_roundw
        case rel => exact ⟨k + 1, P + 2, g2, cap2, by omega, by go_num, rfl, pnext hlt HP.out HE.out rfl, by omega, by omega, onext hlt HV.out hown2, bnext hbel hown hg2⟩
        case measure => simp [intOf]; omega
      · -- the byte 8: a backslash and 98
        have HE : Hid (enc1 (s[k].toNat : Int) = [92, 98]) := by show _ = _; rw [hcs]; decide
        have hfit := at_fits HZL.out hlt HE.out
        rw [HL.out, HN.out, ← HP.out] at hfit
        simp only [List.length_cons, List.length_nil] at hfit
        have c1 : wr.cell? ⟨g, P, none⟩ = some (.int .u8 92) := cread hbel hg HCELL.out HL.out HP.out HZL.out hlt HE.out (j := 0) (by decide) (by omega)
        have c2 : wr.cell? ⟨g, P + 1, none⟩ = some (.int .u8 98) := cread hbel hg HCELL.out HL.out HP.out HZL.out hlt HE.out (j := 1) (by decide) (by omega)
        have j1 : (P : Int) < (N : Int) := by omega
        have j2 : (P : Int) + 1 < (N : Int) := by omega
        have j3 : P + 2 < N := by omega
        have HV : Hid ((s[k].toNat : Int) = 8) := hcs
        clear hcs hb0 hb1 hfit
        go_wp2_with (at_builtin; refine wpList_append_lies _ rfl (.tmp 113) (.tmp 116) 22 rfl w.heap.size 5 i0 (.int .u8 0) 1 1 Trym.underlying22 HI.out HZ.out H1.out H2.out rfl (by omega) _ k (((sb s).take k).map (Value.int .u8)) rfl (hown.alloc _) ⟨wr.heap.size, 0, none⟩ 1 1 [.int .u8 8] rfl rfl (cell_one_new _ _ _) (by simp [Value.oneCell']) (by omega) (by unfold maxLen; omega) (by omega) (by simp; omega) (wr.heap.size + 1) (by simp) ?_; intro g2 cap2 w2 hown2 hg2 hat2 hlt2)
        go_roundw
        case rel => exact ⟨k + 1, P + 2, g2, cap2, by omega, by go_num, rfl, pnext hlt HP.out HE.out rfl, by omega, by omega, onext hlt HV.out hown2, bnext hbel hown hg2⟩
        case measure => simp [intOf]; omega
      · -- the byte 12: a backslash and 102
        have HE : Hid (enc1 (s[k].toNat : Int) = [92, 102]) := by show _ = _; rw [hcs]; decide
        have hfit := at_fits HZL.out hlt HE.out
        rw [HL.out, HN.out, ← HP.out] at hfit
        simp only [List.length_cons, List.length_nil] at hfit
        have c1 : wr.cell? ⟨g, P, none⟩ = some (.int .u8 92) := cread hbel hg HCELL.out HL.out HP.out HZL.out hlt HE.out (j := 0) (by decide) (by omega)
        have c2 : wr.cell? ⟨g, P + 1, none⟩ = some (.int .u8 102) := cread hbel hg HCELL.out HL.out HP.out HZL.out hlt HE.out (j := 1) (by decide) (by omega)
        have j1 : (P : Int) < (N : Int) := by omega
        have j2 : (P : Int) + 1 < (N : Int) := by omega
        have j3 : P + 2 < N := by omega
        have HV : Hid ((s[k].toNat : Int) = 12) := hcs
        clear hcs hb0 hb1 hfit
        go_wp2_with (at_builtin; refine wpList_append_lies _ rfl (.tmp 113) (.tmp 116) 22 rfl w.heap.size 5 i0 (.int .u8 0) 1 1 Trym.underlying22 HI.out HZ.out H1.out H2.out rfl (by omega) _ k (((sb s).take k).map (Value.int .u8)) rfl (hown.alloc _) ⟨wr.heap.size, 0, none⟩ 1 1 [.int .u8 12] rfl rfl (cell_one_new _ _ _) (by simp [Value.oneCell']) (by omega) (by unfold maxLen; omega) (by omega) (by simp; omega) (wr.heap.size + 1) (by simp) ?_; intro g2 cap2 w2 hown2 hg2 hat2 hlt2)
        go_roundw
        case rel => exact ⟨k + 1, P + 2, g2, cap2, by omega, by go_num, rfl, pnext hlt HP.out HE.out rfl, by omega, by omega, onext hlt HV.out hown2, bnext hbel hown hg2⟩
        case measure => simp [intOf]; omega
      · -- the byte 10: a backslash and 110
        have HE : Hid (enc1 (s[k].toNat : Int) = [92, 110]) := by show _ = _; rw [hcs]; decide
        have hfit := at_fits HZL.out hlt HE.out
        rw [HL.out, HN.out, ← HP.out] at hfit
        simp only [List.length_cons, List.length_nil] at hfit
        have c1 : wr.cell? ⟨g, P, none⟩ = some (.int .u8 92) := cread hbel hg HCELL.out HL.out HP.out HZL.out hlt HE.out (j := 0) (by decide) (by omega)
        have c2 : wr.cell? ⟨g, P + 1, none⟩ = some (.int .u8 110) := cread hbel hg HCELL.out HL.out HP.out HZL.out hlt HE.out (j := 1) (by decide) (by omega)
        have j1 : (P : Int) < (N : Int) := by omega
        have j2 : (P : Int) + 1 < (N : Int) := by omega
        have j3 : P + 2 < N := by omega
        have HV : Hid ((s[k].toNat : Int) = 10) := hcs
        clear hcs hb0 hb1 hfit
        go_wp2_with (at_builtin; refine wpList_append_lies _ rfl (.tmp 113) (.tmp 116) 22 rfl w.heap.size 5 i0 (.int .u8 0) 1 1 Trym.underlying22 HI.out HZ.out H1.out H2.out rfl (by omega) _ k (((sb s).take k).map (Value.int .u8)) rfl (hown.alloc _) ⟨wr.heap.size, 0, none⟩ 1 1 [.int .u8 10] rfl rfl (cell_one_new _ _ _) (by simp [Value.oneCell']) (by omega) (by unfold maxLen; omega) (by omega) (by simp; omega) (wr.heap.size + 1) (by simp) ?_; intro g2 cap2 w2 hown2 hg2 hat2 hlt2)
        go_roundw
        case rel => exact ⟨k + 1, P + 2, g2, cap2, by omega, by go_num, rfl, pnext hlt HP.out HE.out rfl, by omega, by omega, onext hlt HV.out hown2, bnext hbel hown hg2⟩
        case measure => simp [intOf]; omega
      · -- the byte 13: a backslash and 114
        have HE : Hid (enc1 (s[k].toNat : Int) = [92, 114]) := by show _ = _; rw [hcs]; decide
        have hfit := at_fits HZL.out hlt HE.out
        rw [HL.out, HN.out, ← HP.out] at hfit
        simp only [List.length_cons, List.length_nil] at hfit
        have c1 : wr.cell? ⟨g, P, none⟩ = some (.int .u8 92) := cread hbel hg HCELL.out HL.out HP.out HZL.out hlt HE.out (j := 0) (by decide) (by omega)
        have c2 : wr.cell? ⟨g, P + 1, none⟩ = some (.int .u8 114) := cread hbel hg HCELL.out HL.out HP.out HZL.out hlt HE.out (j := 1) (by decide) (by omega)
        have j1 : (P : Int) < (N : Int) := by omega
        have j2 : (P : Int) + 1 < (N : Int) := by omega
        have j3 : P + 2 < N := by omega
        have HV : Hid ((s[k].toNat : Int) = 13) := hcs
        clear hcs hb0 hb1 hfit
        go_wp2_with (at_builtin; refine wpList_append_lies _ rfl (.tmp 113) (.tmp 116) 22 rfl w.heap.size 5 i0 (.int .u8 0) 1 1 Trym.underlying22 HI.out HZ.out H1.out H2.out rfl (by omega) _ k (((sb s).take k).map (Value.int .u8)) rfl (hown.alloc _) ⟨wr.heap.size, 0, none⟩ 1 1 [.int .u8 13] rfl rfl (cell_one_new _ _ _) (by simp [Value.oneCell']) (by omega) (by unfold maxLen; omega) (by omega) (by simp; omega) (wr.heap.size + 1) (by simp) ?_; intro g2 cap2 w2 hown2 hg2 hat2 hlt2)
        go_roundw
        case rel => exact ⟨k + 1, P + 2, g2, cap2, by omega, by go_num, rfl, pnext hlt HP.out HE.out rfl, by omega, by omega, onext hlt HV.out hown2, bnext hbel hown hg2⟩
        case measure => simp [intOf]; omega
      · -- the byte 9: a backslash and 116
        have HE : Hid (enc1 (s[k].toNat : Int) = [92, 116]) := by show _ = _; rw [hcs]; decide
        have hfit := at_fits HZL.out hlt HE.out
        rw [HL.out, HN.out, ← HP.out] at hfit
        simp only [List.length_cons, List.length_nil] at hfit
        have c1 : wr.cell? ⟨g, P, none⟩ = some (.int .u8 92) := cread hbel hg HCELL.out HL.out HP.out HZL.out hlt HE.out (j := 0) (by decide) (by omega)
        have c2 : wr.cell? ⟨g, P + 1, none⟩ = some (.int .u8 116) := cread hbel hg HCELL.out HL.out HP.out HZL.out hlt HE.out (j := 1) (by decide) (by omega)
        have j1 : (P : Int) < (N : Int) := by omega
        have j2 : (P : Int) + 1 < (N : Int) := by omega
        have j3 : P + 2 < N := by omega
        have HV : Hid ((s[k].toNat : Int) = 9) := hcs
        clear hcs hb0 hb1 hfit
        go_wp2_with (at_builtin; refine wpList_append_lies _ rfl (.tmp 113) (.tmp 116) 22 rfl w.heap.size 5 i0 (.int .u8 0) 1 1 Trym.underlying22 HI.out HZ.out H1.out H2.out rfl (by omega) _ k (((sb s).take k).map (Value.int .u8)) rfl (hown.alloc _) ⟨wr.heap.size, 0, none⟩ 1 1 [.int .u8 9] rfl rfl (cell_one_new _ _ _) (by simp [Value.oneCell']) (by omega) (by unfold maxLen; omega) (by omega) (by simp; omega) (wr.heap.size + 1) (by simp) ?_; intro g2 cap2 w2 hown2 hg2 hat2 hlt2)
        go_roundw
        case rel => exact ⟨k + 1, P + 2, g2, cap2, by omega, by go_num, rfl, pnext hlt HP.out HE.out rfl, by omega, by omega, onext hlt HV.out hown2, bnext hbel hown hg2⟩
        case measure => simp [intOf]; omega
      · -- a control byte: six bytes
        have HE : Hid (enc1 (s[k].toNat : Int) = [92, 117, 48, 48, hexd ((s[k].toNat : Int) / 16), hexd ((s[k].toNat : Int) % 16)]) := by
          show _ = _
          unfold enc1
          rw [if_neg (by omega), if_neg (by omega), if_neg (by omega), if_neg (by omega), if_neg (by omega), if_neg (by omega), if_pos (by omega)]
        have hfit := at_fits HZL.out hlt HE.out
        rw [HL.out, HN.out, ← HP.out] at hfit
        simp only [List.length_cons, List.length_nil] at hfit
        have c1 : wr.cell? ⟨g, P, none⟩ = some (.int .u8 92) := cread hbel hg HCELL.out HL.out HP.out HZL.out hlt HE.out (j := 0) (by simp) (by omega)
        have c2 : wr.cell? ⟨g, P + 1, none⟩ = some (.int .u8 117) := cread hbel hg HCELL.out HL.out HP.out HZL.out hlt HE.out (j := 1) (by simp) (by omega)
        have HD : Hid (∀ j, j < 4 → wr.cell? ⟨g, P + 2 + j, none⟩ = some (.int .u8 (hexd (dg (s[k].toNat : Int) j)))) := by
          intro j hj
          have := cread hbel hg HCELL.out HL.out HP.out HZL.out hlt HE.out (j := 2 + j) (by simp; omega) (by omega)
          rw [Nat.add_assoc, this]
          match j, hj with
          | 0, _ => rfl
          | 1, _ => rfl
          | 2, _ => rfl
          | 3, _ => rfl
        obtain ⟨x, hxv⟩ : ∃ x, (s[k].toNat : Int) = x := ⟨_, rfl⟩
        have HV : Hid ((s[k].toNat : Int) = x) := hxv
        clear hxv
        rw [HV.out] at HD
        have hx0 : 0 ≤ x := by rw [← HV.out]; exact hb0
        have hx1 : x < 32 := by rw [← HV.out]; exact hcs.2.2.2.2.2
        have j1 : (P : Int) < (N : Int) := by omega
        have j2 : (P : Int) + 1 < (N : Int) := by omega
        have j3 : P + 6 < N := by omega
        have j4 : (P : Int) + 6 < (N : Int) := by omega
        have f3 : decide ((N : Int) ≤ (P : Int) + 1) = false := decide_eq_false (by omega)
        have f4 : decide ((N : Int) < (P : Int) + 6) = false := decide_eq_false (by omega)
        clear hcs hb0 hb1 hfit
        go_wp2_with fail
        go_loop [11, 13] (fun v q => ∃ (j : Nat) (V : Int), j ≤ 4 ∧ q = .int .i64 ((P : Int) + 2 + (j : Int)) ∧ v = .int .i64 V ∧ Hid (V = gone x j)) (fun _ q => ((P : Int) + 6 - intOf q).toNat)
        case atStart => exact ⟨0, 0, by omega, by go_num, rfl, rfl⟩
        case round =>
          obtain ⟨j, V, hj, rfl, rfl, HG⟩ := hrel
          have hV := gone_le x j hx0 hx1
          rw [← HG.out] at hV
          by_cases hj4 : j < 4
          · obtain ⟨y, hy⟩ : ∃ y, y = dg x j := ⟨_, rfl⟩
            have hyb := dg_le x j hx0 hx1
            obtain ⟨z, hz⟩ : ∃ z, z = hexd (dg x j) := ⟨_, rfl⟩
            have hzc := HD.out j hj4
            have hgn := gone_next x j hx0 hx1 hj4
            rw [← hz] at hzc
            rw [← hy] at hyb hgn hz
            rw [← HG.out] at hgn
            have HY : Hid (z = hexd y) := hz
            have HGN : Hid (gone x (j + 1) = V * 16 + y) := hgn
            have j5 : (P : Int) + 2 + (j : Int) < (N : Int) := by omega
            clear hy hz hgn
            go_wp2_with (go_at_call 24; refine (hex_any z y _ HY.out (by omega) (by omega)).mono ?_; rintro e w' ⟨rfl, rfl⟩)
            go_round
            case rel => exact ⟨j + 1, V * 16 + y, by omega, by go_num, rfl, HGN.out.symm⟩
            case measure => simp [intOf]; omega
          · have HW : Hid ((s[k].toNat : Int) = V) := by
              show _ = _
              rw [HV.out, HG.out]
              obtain rfl : j = 4 := by omega
              simp [gone]
            go_wp2_with (at_builtin; refine wpList_append_lies _ rfl (.tmp 113) (.tmp 116) 22 rfl w.heap.size 5 i0 (.int .u8 0) 1 1 Trym.underlying22 HI.out HZ.out H1.out H2.out rfl (by omega) _ k (((sb s).take k).map (Value.int .u8)) rfl (hown.alloc _) ⟨wr.heap.size, 0, none⟩ 1 1 [.int .u8 V] rfl rfl (cell_one_new _ _ _) (by simp [Value.oneCell']) (by omega) (by unfold maxLen; omega) (by omega) (by simp; omega) (wr.heap.size + 1) (by simp) ?_; intro g2 cap2 w2 hown2 hg2 hat2 hlt2)
            go_roundw
            case rel => exact ⟨k + 1, P + 6, g2, cap2, by omega, by go_num, rfl, pnext hlt HP.out HE.out rfl, by omega, by omega, onext hlt HW.out hown2, bnext hbel hown hg2⟩
            case measure => simp [intOf]; omega
      · -- a byte that stands as it is
        have HE : Hid (enc1 (s[k].toNat : Int) = [(s[k].toNat : Int)]) := by
          show _ = _
          unfold enc1
          rw [if_neg (by omega), if_neg (by omega), if_neg (by omega), if_neg (by omega), if_neg (by omega), if_neg (by omega), if_neg (by omega)]
        have hfit := at_fits HZL.out hlt HE.out
        rw [HL.out, HN.out, ← HP.out] at hfit
        simp only [List.length_cons, List.length_nil] at hfit
        have c1 : wr.cell? ⟨g, P, none⟩ = some (.int .u8 (s[k].toNat : Int)) := cread hbel hg HCELL.out HL.out HP.out HZL.out hlt HE.out (j := 0) (by simp) (by omega)
        obtain ⟨x, hxv⟩ : ∃ x, (s[k].toNat : Int) = x := ⟨_, rfl⟩
        have HV : Hid ((s[k].toNat : Int) = x) := hxv
        clear hxv
        rw [HV.out] at c1
        have hx0 : 32 ≤ x := by rw [← HV.out]; exact hcs.2.2
        have hx1 : (x == 34) = false := by rw [← HV.out]; exact beq_eq_false_iff_ne.2 hcs.1
        have hx2 : (x != 92) = true := by rw [← HV.out]; exact bne_iff_ne.2 hcs.2.1
        have hx3 : x ≤ 255 := by rw [← HV.out]; exact hb1
        have j1 : (P : Int) < (N : Int) := by omega
        have j3 : P + 1 < N := by omega
        clear hcs hb0 hb1 hfit
        go_wp2_with (at_builtin; refine wpList_append_lies _ rfl (.tmp 50) (.tmp 52) 22 rfl w.heap.size 5 i0 (.int .u8 0) 1 1 Trym.underlying22 HI.out HZ.out H1.out H2.out rfl (by omega) _ k (((sb s).take k).map (Value.int .u8)) rfl (hown.alloc _) ⟨wr.heap.size, 0, none⟩ 1 1 [.int .u8 x] rfl rfl (cell_one_new _ _ _) (by simp [Value.oneCell']) (by omega) (by unfold maxLen; omega) (by omega) (by simp; omega) (wr.heap.size + 1) (by simp) ?_; intro g2 cap2 w2 hown2 hg2 hat2 hlt2)
        go_roundw
        case rel => exact ⟨k + 1, P + 1, g2, cap2, by omega, by go_num, rfl, pnext hlt HP.out HE.out rfl, by omega, by omega, onext hlt HV.out hown2, bnext hbel hown hg2⟩
        case measure => simp [intOf]; omega
    · -- the closing quotation mark
      obtain rfl : k = s.size := by omega
      have hend := HEND.out
      rw [← HP.out] at hend
      have c1 : wr.cell? ⟨g, P, none⟩ = some (.int .u8 34) := by rw [hbel.cell hg, HCELL.out P hPN, hend.2]
      have HNP : Hid (P + 1 = N) := hend.1
      have j1 : (P : Int) < (N : Int) := by omega
      clear hend
      go_wp2
      go_ret3
      have e := HNP.out
      refine ⟨some ⟨d, 0, none⟩, c, ?_, ?_, hbel⟩
      · rw [← e]; simp
      · rw [List.take_of_length_le (by rw [length_sb]; omega)] at hown
        exact hown
end Go.Proofs.Qxb6600726aMods.Read
