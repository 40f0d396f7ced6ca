/-
  THE WALKS OF 'privateUse' (17), ITS DOOR (9), 'goodSubtag' (10), 'stringsBytes' (8), 'zzBytes_FnPrivateUseExtend' (7).
-/
import Derived.Test.Qxb6602196aModsRows
import Derived.WalkKit
import Derived.ProofKit
import Derived.Below
import Derived.WalkSpells
import Derived.WalkLawsBesides
namespace Go.Proofs.Qxb6602196aMods.Use
open Go.ChangeShapes Go.WideShapes Go.ChangeAt Go.RowKit
set_option linter.unusedVariables false

def isx (s : ByteArray) : Bool := s.toList == [120]
def okS (s : ByteArray) : Bool := decide (1 ≤ s.size ∧ s.size ≤ 8)
def pu (ss : List ByteArray) : Bool := isx (ss.getD 0 ByteArray.empty) && decide (2 ≤ ss.length) && (ss.drop 1).all okS

theorem ret_bool {a b : Bool} (h : a = b) : Ending.returned (.bool a) = .returned (.bool b) := by rw [h]

theorem good_any (s : ByteArray) (w : World) (hs : s.size ≤ 1048576) : Calls Trym.prog 10 #[.string s] w fun e w' => e = .returned (.bool (okS s)) ∧ w' = w := by
  go_enter Trym.func10, Trym.ntmps10
  go_wp2
  · have t : (1 : Int) ≤ (s.size : Int) := by assumption
    go_ret
    exact ⟨ret_bool (by unfold okS; rw [decide_eq_decide]; omega), rfl⟩
  · have t : (s.size : Int) < 1 := by assumption
    go_ret
    exact ⟨ret_bool (by unfold okS; exact (decide_eq_false (by omega)).symm), rfl⟩

theorem pu_isx {ss : List ByteArray} (h : ¬ (ss.getD 0 ByteArray.empty).toList = [120]) : pu ss = false := by
  have : isx (ss.getD 0 ByteArray.empty) = false := beq_eq_false_iff_ne.2 h
  unfold pu
  rw [this]; rfl
theorem pu_one {ss : List ByteArray} (h : ss.length < 2) : pu ss = false := by
  unfold pu
  rw [decide_eq_false (show ¬ 2 ≤ ss.length by omega)]; simp
theorem drop_get {ss : List ByteArray} {j : Nat} (h : 1 + j < ss.length) : ss.getD (1 + j) ByteArray.empty ∈ ss.drop 1 := by
  have e : (ss.drop 1)[j]? = some (ss.getD (1 + j) ByteArray.empty) := by
    rw [List.getElem?_drop, List.getD, List.getElem?_eq_getElem h]; rfl
  exact List.mem_of_getElem? e
theorem pu_bad {ss : List ByteArray} {j : Nat} (h : 1 + j < ss.length) (hb : okS (ss.getD (1 + j) ByteArray.empty) = false) : pu ss = false := by
  unfold pu
  have : (ss.drop 1).all okS = false := by
    rw [List.all_eq_false]
    exact ⟨_, drop_get h, by rw [hb]; simp⟩
  rw [this]; simp
theorem pu_good {ss : List ByteArray} (h : (ss.getD 0 ByteArray.empty).toList = [120]) (h2 : 2 ≤ ss.length) (hg : ∀ j, 1 + j < ss.length → okS (ss.getD (1 + j) ByteArray.empty) = true) : pu ss = true := by
  unfold pu
  have a1 : isx (ss.getD 0 ByteArray.empty) = true := beq_iff_eq.2 h
  have a3 : (ss.drop 1).all okS = true := by
    rw [List.all_eq_true]
    intro y hy
    obtain ⟨j, hj, rfl⟩ := List.getElem_of_mem hy
    have hj' : 1 + j < ss.length := by simp at hj; omega
    have := hg j hj'
    rwa [List.getD, List.getElem?_eq_getElem hj', Option.getD_some, ← List.getElem_drop (h := hj)] at this
  rw [a1, a3, decide_eq_true h2]; rfl

set_option maxHeartbeats 800000 in
theorem pu_some (b off m cap : Nat) (ss : List ByteArray) (w : World) (hl : ss.length = m) (h1 : 1 ≤ m) (hmc : m ≤ cap) (hm : m ≤ 1048576)
    (hcell : ∀ j, j < m → w.cell? ⟨b, off + j, none⟩ = some (.string (ss.getD j ByteArray.empty))) (hsz : ∀ j, (ss.getD j ByteArray.empty).size ≤ 1048576) :
    Calls Trym.prog 17 #[.slice (some ⟨b, off, none⟩) m cap] w fun e w' => e = .returned (.bool (pu ss)) ∧ w' = w := by
  obtain ⟨x, hx⟩ : ∃ x, x = ss.getD 0 ByteArray.empty := ⟨_, rfl⟩
  have c0 : w.cell? ⟨b, off, none⟩ = some (.string x) := by rw [hx]; simpa using hcell 0 (by omega)
  have HC : Hid (∀ j, j < m → w.cell? ⟨b, off + j, none⟩ = some (.string (ss.getD j ByteArray.empty))) := hcell
  have HZ : Hid (∀ j, (ss.getD j ByteArray.empty).size ≤ 1048576) := hsz
  have HL : Hid (ss.length = m) := hl
  have HX : Hid (x = ss.getD 0 ByteArray.empty) := hx
  clear hcell hsz hl hx
  obtain ⟨T, hT⟩ : ∃ T, T = pu ss := ⟨_, rfl⟩
  rw [← hT]
  have HT : Hid (T = pu ss) := hT
  clear hT
  have i1 : (0 : Int) < (m : Int) := by omega
  by_cases hxq : x.toList = [120]
  · by_cases hm2 : 2 ≤ m
    · obtain ⟨M, rfl⟩ : ∃ M, m = M + 1 := ⟨m - 1, by omega⟩
      have i2 : (1 : Int) ≤ (M : Int) := by omega
      have i3 : ¬ cap = 1 := by omega
      have i4 : decide ((M : Int) + 1 < 2) = false := decide_eq_false (by omega)
      have hq : (x.toList == [120]) = true := by rw [hxq]; rfl
      have HQ : Hid (x.toList = [120]) := hxq
      clear hxq
      go_enter Trym.func17, Trym.ntmps17
      go_wp2
      go_loop [17] (fun i => ∃ k : Nat, k ≤ M ∧ i = .int .i64 k ∧ Hid (∀ j, j < k → okS (ss.getD (1 + j) ByteArray.empty) = true)) (fun i => M - (intOf i).toNat)
      case atStart => exact ⟨0, Nat.zero_le _, rfl, fun j hj => by omega⟩
      case round =>
        obtain ⟨k, hk, rfl, HK⟩ := hrel
        by_cases hlt : k < M
        · obtain ⟨y, hy⟩ : ∃ y, y = ss.getD (1 + k) ByteArray.empty := ⟨_, rfl⟩
          have hc := HC.out (1 + k) (by omega)
          have hz := HZ.out (1 + k)
          rw [← hy] at hc hz
          rw [← Nat.add_assoc] at hc
          have HY : Hid (y = ss.getD (1 + k) ByteArray.empty) := hy
          have hkM : (k : Int) < (M : Int) := by omega
          clear hy
          go_wp2
          · have t : (y.size : Int) < 1 ∨ 8 < (y.size : Int) := by assumption
            go_ret
            exact ⟨ret_bool (by rw [HT.out, pu_bad (j := k) (by have := HL.out; omega) (by rw [← HY.out]; exact decide_eq_false (by omega))]), rfl⟩
          · have t : 1 ≤ (y.size : Int) ∧ (y.size : Int) ≤ 8 := by assumption
            go_round
            case rel =>
              refine ⟨k + 1, by omega, by go_num, fun j hj => ?_⟩
              by_cases e : j = k
              · rw [e, ← HY.out]; exact decide_eq_true (by omega)
              · exact HK.out j (by omega)
            case measure => simp [intOf]; omega
          · have t : (y.size : Int) < 1 := by assumption
            go_ret
            exact ⟨ret_bool (by rw [HT.out, pu_bad (j := k) (by have := HL.out; omega) (by rw [← HY.out]; exact decide_eq_false (by omega))]), rfl⟩
        · go_wp2
          go_ret
          exact ⟨ret_bool (by rw [HT.out, pu_good (by rw [← HX.out]; exact HQ.out) (by have := HL.out; omega) (fun j hj => HK.out j (by have := HL.out; omega))]), rfl⟩
    · go_enter Trym.func17, Trym.ntmps17
      have i2 : (m : Int) < 2 := by omega
      go_wp2
      go_ret
      exact ⟨ret_bool (by rw [HT.out, pu_one (by have := HL.out; omega)]), rfl⟩
  · go_enter Trym.func17, Trym.ntmps17
    go_wp2
    go_ret
    exact ⟨ret_bool (by rw [HT.out, pu_isx (by rw [← HX.out]; exact hxq)]), rfl⟩

/-- THE DOOR 'ZZprivateUse' (9). -/
theorem door_any (b off m cap : Nat) (ss : List ByteArray) (w : World) (hl : ss.length = m) (h1 : 1 ≤ m) (hmc : m ≤ cap) (hm : m ≤ 1048576)
    (hcell : ∀ j, j < m → w.cell? ⟨b, off + j, none⟩ = some (.string (ss.getD j ByteArray.empty))) (hsz : ∀ j, (ss.getD j ByteArray.empty).size ≤ 1048576) :
    Calls Trym.prog 9 #[.slice (some ⟨b, off, none⟩) m cap] w fun e w' => e = .returned (.bool (pu ss)) ∧ w' = w := by
  have H := pu_some b off m cap ss w hl h1 hmc hm hcell hsz
  clear hcell hsz
  have HH : Hid (Calls Trym.prog 17 #[.slice (some ⟨b, off, none⟩) m cap] w fun e w' => e = .returned (.bool (pu ss)) ∧ w' = w) := H
  clear H
  go_enter Trym.func9, Trym.ntmps9
  go_wp2_with fail
  refine HH.out.mono ?_
  rintro e w' ⟨rfl, rfl⟩
  go_wp2
  go_ret
  exact ⟨rfl, rfl⟩

/-- WHAT A SLICE OF STRINGS HOLDS: nil; or n strings, cell by cell. -/
def Rd (w : World) (a : Option Addr) (n : Nat) (ss : List ByteArray) : Prop :=
  ss.length = n ∧ (n = 0 ∨ ∃ b off, a = some ⟨b, off, none⟩ ∧ ∀ j, j < n → w.cell? ⟨b, off + j, none⟩ = some (.string (ss.getD j ByteArray.empty)))

theorem bytes_none (a : Option Addr) (cap : Nat) (w : World) : Calls Trym.prog 8 #[.slice a 0 cap] w fun e w' => e = .returned (.int .i64 0) ∧ w' = w := by
  go_enter Trym.func8, Trym.ntmps8
  go_wp2
  refine wp_loop_rounds 1 ?_
  rw [rounds_succ]
  go_wp2
  go_ret
  exact ⟨rfl, rfl⟩

set_option maxHeartbeats 800000 in
theorem bytes_some (b off n cap : Nat) (ss : List ByteArray) (w : World) (hn : n ≤ 1048576)
    (hcell : ∀ j, j < n → w.cell? ⟨b, off + j, none⟩ = some (.string (ss.getD j ByteArray.empty))) (hsz : ∀ j, j < n → (ss.getD j ByteArray.empty).size ≤ 1048576) :
    Calls Trym.prog 8 #[.slice (some ⟨b, off, none⟩) n cap] w fun e w' => ∃ T : Int, 0 ≤ T ∧ T ≤ 4194304 ∧ e = .returned (.int .i64 T) ∧ w' = w := by
  go_enter Trym.func8, Trym.ntmps8
  go_wp2
  go_loop [3, 4] (fun t i => ∃ (k : Nat) (T : Int), k ≤ n ∧ i = .int .i64 k ∧ t = .int .i64 T ∧ 0 ≤ T ∧ T ≤ 1048576) (fun _ i => n - (intOf i).toNat)
  case atStart => exact ⟨0, 0, Nat.zero_le _, rfl, rfl, by omega, by omega⟩
  case round =>
    obtain ⟨k, T, hk, rfl, rfl, hT0, hT1⟩ := hrel
    by_cases hlt : k < n
    · have hc := hcell k hlt
      have hz := hsz k hlt
      generalize ss.getD k ByteArray.empty = y at hc hz
      clear hcell hsz
      go_wp2
      · go_ret
        exact ⟨_, by omega, by omega, rfl, rfl⟩
      · go_round
        case rel => exact ⟨k + 1, _, by omega, by go_num, rfl, by omega, by omega⟩
        case measure => simp [intOf]; omega
    · go_wp2
      go_ret
      exact ⟨T, by omega, by omega, rfl, rfl⟩

theorem bytes_any (a : Option Addr) (n cap : Nat) (ss : List ByteArray) (w : World) (hn : n ≤ 1048576) (h : Rd w a n ss) (hsz : ∀ j, j < n → (ss.getD j ByteArray.empty).size ≤ 1048576) :
    Calls Trym.prog 8 #[.slice a n cap] w fun e w' => ∃ T : Int, 0 ≤ T ∧ T ≤ 4194304 ∧ e = .returned (.int .i64 T) ∧ w' = w := by
  obtain ⟨hl, rfl | ⟨b, off, rfl, hc⟩⟩ := h
  · exact (bytes_none a cap w).mono fun e w' ⟨he, hw⟩ => ⟨0, by omega, by omega, he, hw⟩
  · exact bytes_some b off n cap ss w hn hc hsz

/-! ### 'zzBytes_FnPrivateUseExtend' (7): if it says yes, every length is small -/
def Small (n : Nat) (ss : List ByteArray) (t : ByteArray) : Prop := n ≤ 1048576 ∧ t.size ≤ 1048576 ∧ ∀ j, j < n → (ss.getD j ByteArray.empty).size ≤ 1048576

theorem zz_long (a : Option Addr) (n cap : Nat) (t : ByteArray) (w : World) (h : 1048576 < n) (hn : n ≤ 9223372036854775807) : Calls Trym.prog 7 #[.slice a n cap, .string t] w fun e w' => e = .returned (.bool false) ∧ w' = w := by
  go_enter Trym.func7, Trym.ntmps7
  go_wp2
  go_ret
  exact ⟨rfl, rfl⟩

theorem zz_none (a : Option Addr) (cap : Nat) (ss : List ByteArray) (t : ByteArray) (w : World) (ht : t.size ≤ 9223372036854775807) :
    Calls Trym.prog 7 #[.slice a 0 cap, .string t] w fun e w' => (e = .returned (.bool false) ∧ w' = w) ∨ (e = .returned (.bool true) ∧ w' = w ∧ Small 0 ss t) := by
  go_enter Trym.func7, Trym.ntmps7
  go_wp2
  refine wp_loop_rounds 1 ?_
  rw [rounds_succ]
  go_wp2
  · go_ret
    exact .inl ⟨rfl, rfl⟩
  · have t1 : (t.size : Int) ≤ 1048576 := by assumption
    go_ret
    exact .inr ⟨rfl, rfl, by omega, by omega, fun j hj => by omega⟩

set_option maxHeartbeats 800000 in
theorem zz_some (b off n cap : Nat) (ss : List ByteArray) (t : ByteArray) (w : World) (hn : n ≤ 1048576) (ht : t.size ≤ 9223372036854775807)
    (hcell : ∀ j, j < n → w.cell? ⟨b, off + j, none⟩ = some (.string (ss.getD j ByteArray.empty))) :
    Calls Trym.prog 7 #[.slice (some ⟨b, off, none⟩) n cap, .string t] w fun e w' => (e = .returned (.bool false) ∧ w' = w) ∨ (e = .returned (.bool true) ∧ w' = w ∧ Small n ss t) := by
  have HC : Hid (∀ j, j < n → w.cell? ⟨b, off + j, none⟩ = some (.string (ss.getD j ByteArray.empty))) := hcell
  clear hcell
  go_enter Trym.func7, Trym.ntmps7
  go_wp2
  go_loop [5, 6] (fun z i => ∃ (k : Nat) (Z : Int), k ≤ n ∧ i = .int .i64 k ∧ z = .int .i64 Z ∧ 0 ≤ Z ∧ Z ≤ 1048576 ∧ Hid (∀ j, j < k → (ss.getD j ByteArray.empty).size ≤ 1048576)) (fun _ i => n - (intOf i).toNat)
  case atStart => exact ⟨0, _, Nat.zero_le _, rfl, rfl, by omega, by omega, fun j hj => by omega⟩
  case round =>
    obtain ⟨k, Z, hk, rfl, rfl, hZ0, hZ1, HK⟩ := hrel
    by_cases hlt : k < n
    · obtain ⟨y, hy⟩ : ∃ y, y = ss.getD k ByteArray.empty := ⟨_, rfl⟩
      have hc := HC.out k hlt
      rw [← hy] at hc
      have HY : Hid (y = ss.getD k ByteArray.empty) := hy
      clear hy
      go_wp2
      · go_ret
        exact .inl ⟨rfl, rfl⟩
      · go_ret
        exact .inl ⟨rfl, rfl⟩
      · have t1 : (y.size : Int) ≤ 1048576 := by assumption
        go_round
        case rel =>
          refine ⟨k + 1, _, by omega, by go_num, rfl, by omega, by omega, fun j hj => ?_⟩
          by_cases e : j = k
          · rw [e, ← HY.out]; omega
          · exact HK.out j (by omega)
        case measure => simp [intOf]; omega
    · go_wp2
      · go_ret
        exact .inl ⟨rfl, rfl⟩
      · go_ret
        exact .inl ⟨rfl, rfl⟩
      · have t1 : (t.size : Int) ≤ 1048576 := by assumption
        go_ret
        exact .inr ⟨rfl, rfl, by omega, by omega, fun j hj => HK.out j (by omega)⟩

theorem zz_any (a : Option Addr) (n cap : Nat) (ss : List ByteArray) (t : ByteArray) (w : World) (hn : n ≤ 9223372036854775807) (ht : t.size ≤ 9223372036854775807) (h : Rd w a n ss) :
    Calls Trym.prog 7 #[.slice a n cap, .string t] w fun e w' => (e = .returned (.bool false) ∧ w' = w) ∨ (e = .returned (.bool true) ∧ w' = w ∧ Small n ss t) := by
  by_cases hl : n ≤ 1048576
  · obtain ⟨_, rfl | ⟨b, off, rfl, hc⟩⟩ := h
    · exact zz_none a cap ss t w ht
    · exact zz_some b off n cap ss t w hl ht hc
  · exact (zz_long a n cap t w (by omega) hn).mono fun e w' h => .inl h
end Go.Proofs.Qxb6602196aMods.Use
