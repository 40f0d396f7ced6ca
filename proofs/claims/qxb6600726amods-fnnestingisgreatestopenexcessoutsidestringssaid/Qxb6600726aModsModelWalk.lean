/-
  THE WALK OF 'modelNestingSsb1' (function 20): it, too, returns 'nrun' of the bytes.
-/
import Derived.Test.Qxb6600726aModsClone
import Derived.Test.Qxb6600726aModsLook
namespace Go.Proofs.Qxb6600726aMods.Model
open Go.ChangeShapes Go.WideShapes Go.ChangeAt Go.RowKit
open Go.Proofs.Qxb6600726aMods.Plain Go.Proofs.Qxb6600726aMods.Nest Go.Proofs.Qxb6600726aMods.Clone Go.Proofs.Qxb6600726aMods.Look
set_option linter.unusedVariables false

theorem orB {c a b : Int} (h : (c == a) = true ∨ (c == b) = true) : c = a ∨ c = b := by
  rcases h with h | h
  · exact .inl (beq_iff_eq.1 h)
  · exact .inr (beq_iff_eq.1 h)
theorem norB {c a b : Int} (h : (c == a) = false ∧ (c == b) = false) : ¬ (c = a ∨ c = b) := not_or.2 ⟨beq_eq_false_iff_ne.1 h.1, beq_eq_false_iff_ne.1 h.2⟩
theorem mx1 {l : List Int} {m : Nat} {D B T : Int} (h : B < D + 1) (e : nrun l m (D + 1) (max B (D + 1)) = T) : nrun l m (D + 1) (D + 1) = T := by
  rwa [show max B (D + 1) = D + 1 from by omega] at e
theorem mx2 {l : List Int} {m : Nat} {D B T : Int} (h : D + 1 ≤ B) (e : nrun l m (D + 1) (max B (D + 1)) = T) : nrun l m (D + 1) B = T := by
  rwa [show max B (D + 1) = B from by omega] at e
theorem trY {zs : List Int} {S m q k : Nat} {d : Int} (h : S ≤ m) (hd : d = zs.getD m 0) (h1 : d = 92) (e : q + tr zs S (m + 1) = tr zs S k) : Hid (q + 1 + tr zs S m = tr zs S k) := by
  show _ = _
  rw [tr_yes h hd h1] at e; omega
theorem trN {zs : List Int} {S m q k : Nat} {d : Int} (hd : d = zs.getD m 0) (h1 : ¬ d = 92) (e : q + tr zs S (m + 1) = tr zs S k) : q = tr zs S k := by
  rw [tr_no hd h1] at e; omega
theorem evenB {q : Nat} (h : ((q : Int) % 2 == 0) = true) : q % 2 = 0 := by have := beq_iff_eq.1 h; omega
theorem oddB {q : Nat} (h : ((q : Int) % 2 == 0) = false) : ¬ q % 2 = 0 := by have := beq_eq_false_iff_ne.1 h; omega
theorem mdS {zs l : List Int} {k : Nat} {D B T : Int} (e : nrun l 1 D B = T) : nrun l (md zs k k) D B = T := by rw [md_start]; exact e

set_option maxHeartbeats 1600000 in
theorem model_some (b off n cap : Nat) (zs : List Int) (w : World) (hl : zs.length = n) (hn : n ≤ 1073741824) (hb : ∀ j, 0 ≤ zs.getD j 0 ∧ zs.getD j 0 ≤ 255)
    (hcell : ∀ j, j < n → w.cell? ⟨b, off + j, none⟩ = some (.int .u8 (zs.getD j 0))) :
    Calls Trym.prog 20 #[.slice (some ⟨b, off, none⟩) n cap] w fun e w' => e = .returned (.int .i64 (nrun zs 0 0 0)) ∧ w' = w := by
  obtain ⟨T, hT⟩ : ∃ T, T = nrun zs 0 0 0 := ⟨_, rfl⟩
  rw [← hT]
  have HT : Hid (T = nrun zs 0 0 0) := hT
  have HB : Hid (∀ j, 0 ≤ zs.getD j 0 ∧ zs.getD j 0 ≤ 255) := hb
  have HCELL : Hid (∀ j, j < n → w.cell? ⟨b, off + j, none⟩ = some (.int .u8 (zs.getD j 0))) := hcell
  have HL : Hid (zs.length = n) := hl
  clear hT hb hcell hl
  go_enter Trym.func20, Trym.ntmps20
  go_wp2
  go_loop [3, 4, 5, 6, 7] (fun st sp bal best i => ∃ (k S : Nat) (D B : Int) (f : Bool), k ≤ n ∧ S ≤ k ∧ i = .int .i64 k ∧ sp = .int .i64 S ∧ bal = .int .i64 D ∧ best = .int .i64 B ∧ st = .bool f ∧ -(k : Int) ≤ D ∧ D ≤ k ∧ 0 ≤ B ∧ B ≤ k ∧ Hid (nrun (zs.drop k) (if f then md zs S k else 0) D B = T))
    (fun _ _ _ _ i => n - (intOf i).toNat)
  case atStart => exact ⟨0, 0, 0, 0, false, by omega, by omega, rfl, rfl, rfl, rfl, rfl, by omega, by omega, by omega, by omega, HT.out.symm⟩
  case round =>
    obtain ⟨k, S, D, B, f, hk, hSk, rfl, rfl, rfl, rfl, rfl, hD1, hD2, hB1, hB2, HN⟩ := hrel
    by_cases hlt : k < n
    · obtain ⟨c, hc⟩ : ∃ c, c = zs.getD k 0 := ⟨_, rfl⟩
      have hcc := HCELL.out k hlt
      have hcb := HB.out k
      rw [← hc] at hcc hcb
      have HC : Hid (c = zs.getD k 0) := hc
      clear hc
      have hkl : Hid (k < zs.length) := by have := HL.out; show _ < _; omega
      cases f
      · go_wp2
        · go_round
          case rel => exact ⟨k + 1, k + 1, D, B, true, by omega, by omega, by go_num, by go_num, rfl, rfl, rfl, by omega, by omega, by omega, by omega, (out_quote hkl.out HC.out (beq_iff_eq.1 (by assumption))).symm.trans HN.out |> mdS⟩
          case measure => simp [intOf]; omega
        · go_round
          case rel => exact ⟨k + 1, S, D + 1, D + 1, false, by omega, by omega, by go_num, by go_num, rfl, rfl, rfl, by omega, by omega, by omega, by omega, mx1 (by assumption) ((out_open hkl.out HC.out (.inl (by assumption))).symm.trans HN.out)⟩
          case measure => simp [intOf]; omega
        · go_round
          case rel => exact ⟨k + 1, S, D + 1, B, false, by omega, by omega, by go_num, by go_num, rfl, rfl, rfl, by omega, by omega, by omega, by omega, mx2 (by assumption) ((out_open hkl.out HC.out (.inl (by assumption))).symm.trans HN.out)⟩
          case measure => simp [intOf]; omega
        · go_round
          case rel => exact ⟨k + 1, S, D + 1, D + 1, false, by omega, by omega, by go_num, by go_num, rfl, rfl, rfl, by omega, by omega, by omega, by omega, mx1 (by assumption) ((out_open hkl.out HC.out (orB (by assumption))).symm.trans HN.out)⟩
          case measure => simp [intOf]; omega
        · go_round
          case rel => exact ⟨k + 1, S, D + 1, B, false, by omega, by omega, by go_num, by go_num, rfl, rfl, rfl, by omega, by omega, by omega, by omega, mx2 (by assumption) ((out_open hkl.out HC.out (orB (by assumption))).symm.trans HN.out)⟩
          case measure => simp [intOf]; omega
        · go_round
          case rel => exact ⟨k + 1, S, D - 1, B, false, by omega, by omega, by go_num, by go_num, rfl, rfl, rfl, by omega, by omega, by omega, by omega, (out_shut hkl.out HC.out (.inl (by assumption))).symm.trans HN.out⟩
          case measure => simp [intOf]; omega
        · go_round
          case rel => exact ⟨k + 1, S, D - 1, B, false, by omega, by omega, by go_num, by go_num, rfl, rfl, rfl, by omega, by omega, by omega, by omega, (out_shut hkl.out HC.out (orB (by assumption))).symm.trans HN.out⟩
          case measure => simp [intOf]; omega
        · have t1 : (c == 34) = false := by assumption
          have t2 : (c == 123) = false ∧ (c == 91) = false := by assumption
          have t3 : (c == 125) = false ∧ (c == 93) = false := by assumption
          go_round
          case rel => exact ⟨k + 1, S, D, B, false, by omega, by omega, by go_num, by go_num, rfl, rfl, rfl, by omega, by omega, by omega, by omega, (out_else hkl.out HC.out (beq_eq_false_iff_ne.1 t1) (norB t2) (norB t3)).symm.trans HN.out⟩
          case measure => simp [intOf]; omega
      · go_wp2
        · have hc34 : Hid (c = 34) := beq_iff_eq.1 (by assumption)
          go_loop [9, 10] (fun r j => ∃ (m q : Nat), S ≤ m ∧ m ≤ k ∧ q + m ≤ k ∧ r = .int .i64 q ∧ j = .int .i64 ((m : Int) - 1) ∧ Hid (q + tr zs S m = tr zs S k)) (fun _ j => (intOf j + 1).toNat)
          case atStart => exact ⟨k, 0, by omega, by omega, by omega, rfl, rfl, Nat.zero_add _⟩
          case round =>
            obtain ⟨m, q, hm1, hm2, hqm, rfl, rfl, HQ⟩ := hrel
            by_cases hSm : S < m
            · obtain ⟨m', rfl⟩ : ∃ m', m = m' + 1 := ⟨m - 1, by omega⟩
              rw [show (((m' + 1 : Nat) : Int) - 1) = (m' : Int) from by omega]
              obtain ⟨d, hd⟩ : ∃ d, d = zs.getD m' 0 := ⟨_, rfl⟩
              have hdc := HCELL.out m' (by omega)
              rw [← hd] at hdc
              have HD : Hid (d = zs.getD m' 0) := hd
              clear hd
              have hj1 : (S : Int) ≤ (m' : Int) := by omega
              have hj2 : (m' : Int) < (n : Int) := by omega
              go_wp2
              · go_round
                case rel => exact ⟨m', q + 1, by omega, by omega, by omega, by go_num, rfl, trY (by omega) HD.out (beq_iff_eq.1 (by assumption)) HQ.out⟩
                case measure => simp [intOf]
              · have e := trN HD.out (beq_eq_false_iff_ne.1 (by assumption)) HQ.out
                go_round
                case rel => exact ⟨k + 1, S, D, B, false, by omega, by omega, by go_num, by go_num, rfl, rfl, rfl, by omega, by omega, by omega, by omega, (in_shut hkl.out HC.out hc34.out (e ▸ evenB (by assumption))).symm.trans HN.out⟩
                case measure => simp [intOf]; omega
              · have e := trN HD.out (beq_eq_false_iff_ne.1 (by assumption)) HQ.out
                go_round
                case rel => exact ⟨k + 1, S, D, B, true, by omega, by omega, by go_num, by go_num, rfl, rfl, rfl, by omega, by omega, by omega, by omega, (in_stay hkl.out HC.out hc34.out (e ▸ oddB (by assumption))).symm.trans HN.out⟩
                case measure => simp [intOf]; omega
            · have e : q = tr zs S k := by have := HQ.out; rw [tr_before (by omega)] at this; omega
              have HE : Hid (q = tr zs S k) := e
              clear e
              go_wp2
              · go_round
                case rel => exact ⟨k + 1, S, D, B, false, by omega, by omega, by go_num, by go_num, rfl, rfl, rfl, by omega, by omega, by omega, by omega, (in_shut hkl.out HC.out hc34.out (HE.out ▸ evenB (by assumption))).symm.trans HN.out⟩
                case measure => simp [intOf]; omega
              · go_round
                case rel => exact ⟨k + 1, S, D, B, true, by omega, by omega, by go_num, by go_num, rfl, rfl, rfl, by omega, by omega, by omega, by omega, (in_stay hkl.out HC.out hc34.out (HE.out ▸ oddB (by assumption))).symm.trans HN.out⟩
                case measure => simp [intOf]; omega
        · go_round
          case rel => exact ⟨k + 1, S, D, B, true, by omega, by omega, by go_num, by go_num, rfl, rfl, rfl, by omega, by omega, by omega, by omega, (in_step hkl.out hSk HC.out (beq_eq_false_iff_ne.1 (by assumption))).symm.trans HN.out⟩
          case measure => simp [intOf]; omega
    · go_wp2
      go_ret
      have e := HN.out
      rw [at_end (by have := HL.out; omega)] at e
      exact ⟨ret_int e, rfl⟩

theorem model_none (a : Option Addr) (cap : Nat) (w : World) :
    Calls Trym.prog 20 #[.slice a 0 cap] w fun e w' => e = .returned (.int .i64 0) ∧ w' = w := by
  go_enter Trym.func20, Trym.ntmps20
  go_wp2
  refine wp_loop_rounds 1 ?_
  rw [rounds_succ]
  go_wp2
  go_ret
  exact ⟨rfl, rfl⟩

theorem model_any (a : Option Addr) (n cap : Nat) (zs : List Int) (w : World) (hn : n ≤ 1073741824) (h : Rd w a n zs) :
    Calls Trym.prog 20 #[.slice a n cap] w fun e w' => e = .returned (.int .i64 (nrun zs 0 0 0)) ∧ w' = w := by
  obtain ⟨hl, hb, rfl | ⟨b, off, rfl, hc⟩⟩ := h
  · obtain rfl : zs = [] := List.eq_nil_of_length_eq_zero hl
    exact model_none a cap w
  · exact model_some b off n cap zs w hl hn hb hc

/-! ### THE LAW 'FnNestingIsGreatestOpenExcessOutsideStrings' (function 6) -/
theorem great_long (a : Option Addr) (n cap : Nat) (w : World) (hn : 1048576 < n) (hm : n ≤ 9223372036854775807) :
    Calls Trym.prog 6 #[.slice a n cap] w fun e w' => e = .returned (.bool true) ∧ Below w.heap.size w w' := by
  go_enter Trym.func6, Trym.ntmps6
  go_wp2
  go_ret
  exact ⟨rfl, Below.refl _ _⟩

set_option maxHeartbeats 400000 in
theorem great_short (a : Option Addr) (n cap : Nat) (zs : List Int) (w : World) (hn : n ≤ 1048576) (hb : InByte zs) (h : Src w a n cap zs) :
    Calls Trym.prog 6 #[.slice a n cap] w fun e w' => e = .returned (.bool true) ∧ Below w.heap.size w w' := by
  obtain ⟨T, hT⟩ : ∃ T, T = nrun zs 0 0 0 := ⟨_, rfl⟩
  have HT : Hid (T = nrun zs 0 0 0) := hT
  have HS : Hid (Src w a n cap zs) := h
  have HBy : Hid (InByte zs) := hb
  clear hT h hb
  go_enter Trym.func6, Trym.ntmps6
  go_wp2_with (first | (go_at_call 19; go_in))
  refine (clone_any a n cap zs _ (by omega) HS.out).mono ?_
  rintro e w1 ⟨a1, c1, rfl, hown1, hbel1⟩
  have HR : Hid (Rd w1 a1 n zs) := rd_of_owns hown1 HBy.out
  clear hown1
  go_wp2_with fail
  refine (door_any _ _ _ zs _ (by omega) HR.out).mono ?_
  rintro e w2 ⟨rfl, rfl⟩
  rw [← HT.out]
  go_wp2_with fail
  refine (model_any _ _ _ zs _ (by omega) HR.out).mono ?_
  rintro e w3 ⟨rfl, rfl⟩
  rw [← HT.out]
  go_wp2
  go_ret
  exact ⟨by simp, hbel1⟩
end Go.Proofs.Qxb6600726aMods.Model
