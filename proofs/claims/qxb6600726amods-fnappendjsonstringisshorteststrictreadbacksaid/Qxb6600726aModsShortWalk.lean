/-
  THE WALKS OF 'shortestJSONLenSsb1' (15) AND OF THE LAW 'FnAppendJSONStringIsShortestStrictReadBack' (function 3).
-/
import Derived.Test.Qxb6600726aModsReadWalk
import Derived.Test.Qxb6600726aModsSplitWalk
namespace Go.Proofs.Qxb6600726aMods.Short
open Go.ChangeShapes Go.WideShapes Go.ChangeAt Go.RowKit
open Go.Proofs.Qxb6600726aMods.Nest Go.Proofs.Qxb6600726aMods.Clone Go.Proofs.Qxb6600726aMods.Json Go.Proofs.Qxb6600726aMods.App Go.Proofs.Qxb6600726aMods.Eq Go.Proofs.Qxb6600726aMods.Read Go.Proofs.Qxb6600726aMods.Split
set_option linter.unusedVariables false

theorem len_any (c : Int) (w : World) (h0 : 0 ≤ c) (h1 : c ≤ 255) : Calls Trym.prog 15 #[.int .u8 c] w fun e w' => e = .returned (.int .i64 ((enc1 c).length : Int)) ∧ w' = w := by
  go_enter Trym.func15, Trym.ntmps15
  go_wp2
  · go_ret; exact ⟨ret_int (by rw [e34 (by assumption)]; rfl), rfl⟩
  · go_ret; exact ⟨ret_int (by rw [e92 (by assumption)]; rfl), rfl⟩
  · go_ret; exact ⟨ret_int (by rw [e8 (by assumption)]; rfl), rfl⟩
  · go_ret; exact ⟨ret_int (by rw [e12 (by assumption)]; rfl), rfl⟩
  · go_ret; exact ⟨ret_int (by rw [e10 (by assumption)]; rfl), rfl⟩
  · go_ret; exact ⟨ret_int (by rw [e13 (by assumption)]; rfl), rfl⟩
  · go_ret; exact ⟨ret_int (by rw [e9 (by assumption)]; rfl), rfl⟩
  · go_ret; exact ⟨ret_int (by rw [ehex (by assumption) (by assumption) (by assumption) (by assumption) (by assumption) (by assumption) (by assumption) (by assumption) rfl rfl]; rfl), rfl⟩
  · go_ret; exact ⟨ret_int (by rw [eraw (by assumption) (by assumption) (by assumption)]; rfl), rfl⟩

theorem keep2 {w w' : World} {base n M : Nat} {v : Value} {xs : List Value} {row : Option Nat} (h : w.ownsRow base 5 1 v n xs) (hg : w.grownBy w' row) (hge : ∀ k, v.ownBlock = some k → M ≤ k) (hrow : ∀ k, row = some k → k < M) : w'.ownsRow base 5 1 v n xs := by
  refine h.kept hg ?_
  cases hv : v.ownBlock with
  | none => exact .inl rfl
  | some k => exact .inr fun e => by have := hge k hv; have := hrow k e.symm; omega

theorem cells_at {w : World} {base N cap g : Nat} {L : List Int} (h : w.ownsRow base 5 1 (.slice (some ⟨g, 0, none⟩) N cap) N (L.map (Value.int .u8))) :
    g < w.heap.size ∧ ∀ j, j < N → w.cell? ⟨g, j, none⟩ = some (.int .u8 (L.getD j 0)) := by
  obtain ⟨_, h0 | ⟨g', hg', _, h2, _, h3⟩⟩ := owns_cells h
  · simp at h0
  · simp only [Option.some.injEq, Addr.mk.injEq, and_true] at hg'
    subst hg'
    exact ⟨h2, h3⟩

theorem short_long (a : Option Addr) (n cap : Nat) (s : ByteArray) (w : World) (hn : n ≤ 9223372036854775807) (hs : s.size ≤ 9223372036854775807) (h : 1048576 < n + s.size) :
    Calls Trym.prog 3 #[.slice a n cap, .string s] w fun e w' => e = .returned (.bool true) ∧ Below w.heap.size w w' := by
  go_enter Trym.func3, Trym.ntmps3
  go_wp2
  all_goals (go_ret; exact ⟨rfl, Below.refl _ _⟩)

set_option maxRecDepth 100000 in
set_option maxHeartbeats 1600000 in
theorem short_short (a : Option Addr) (n cap : Nat) (zs : List Int) (s : ByteArray) (w : World) (hn : n + s.size ≤ 1048576) (hb : InByte zs) (h : Src w a n cap zs) :
    Calls Trym.prog 3 #[.slice a n cap, .string s] w fun e w' => e = .returned (.bool true) ∧ Below w.heap.size w w' := by
  have hzl : zs.length = n := h.1
  obtain ⟨L, hL⟩ : ∃ L, out zs (sb s) = L := ⟨_, rfl⟩
  obtain ⟨N, hN⟩ : ∃ N, L.length = N := ⟨_, rfl⟩
  have bL : Hid (InByte L) := by rw [← hL]; exact out_byte hb _
  have q1 : Hid (L.take n = zs) := by rw [← hL, ← hzl]; exact p1 zs (sb s)
  have m1 : (out zs (sb s)).length = n + 2 + (enc (sb s)).length := by simp [out, hzl]; omega
  have m2 := enc_len (sb s)
  rw [hL, hN] at m1
  rw [length_sb] at m2
  have d1 : n + 2 ≤ N := by omega
  have d2 : N ≤ 16777216 := by omega
  have HM : Hid (N = n + 2 + (enc (sb s)).length) := m1
  have HL : Hid (out zs (sb s) = L) := hL
  have HN : Hid (L.length = N) := hN
  have HZL : Hid (zs.length = n) := hzl
  have HS : Hid (Src w a n cap zs) := h
  have HBy : Hid (InByte zs) := hb
  clear hL hN hzl h hb m1 m2
  go_enter Trym.func3, Trym.ntmps3
  go_wp2_with (first | (go_at_call 9; go_in))
  refine (clone_any a n cap zs _ (by omega) HS.out).mono ?_
  rintro e w1 ⟨a1, c1, rfl, own1, bel1⟩
  go_wp2_with fail
  refine (clone_any a1 n c1 zs _ (by omega) (src_of_owns own1)).mono ?_
  rintro e w2 ⟨a2, c2, rfl, own2, bel2⟩
  have own1b := keep own1 (grown_of_below bel2) (own_lt own1) (by simp)
  have z1 := bel1.size
  have z2 := bel2.size
  go_wp2_with fail
  refine (door_L w.heap.size n N _ zs L s _ own1b (by omega) (by omega) (by omega) HL.out HN.out).mono ?_
  rintro e w3 ⟨g3, c3, rfl, own3, k3, gr3⟩
  have own2b := keep2 own2 gr3 (own_ge own2) (own_lt own1)
  have z3 := gr3.size
  have R1 : Hid (Rd w3 (some ⟨g3, 0, none⟩) n zs) := rd_part (lo := 0) own3 bL.out (by omega) (by simpa using q1.out)
  have R2 : Hid (Rd w3 a2 n zs) := rd_of_owns own2b HBy.out
  have C3 : Hid (g3 < w3.heap.size ∧ ∀ j, j < N → w3.cell? ⟨g3, j, none⟩ = some (.int .u8 (L.getD j 0))) := cells_at own3
  have F3 : Hid (Below w.heap.size w w3) := (bel1.grown (grown_of_below bel2) z1 (by simp)).grown gr3 (by omega) (fun k hk => own_ge own1 k hk)
  clear own1 own1b own2 own2b own3 bel1 bel2 gr3
  go_wp2_with fail
  refine (eq_any _ _ n _ _ zs _ (by omega) R1.out R2.out).mono ?_
  rintro e w4 ⟨rfl, q, rfl⟩
  go_wp2_with fail
  refine (read_any g3 N c3 n zs L s (w3.drewN q) HL.out HN.out HZL.out (by omega) (by omega) C3.out.2 C3.out.1).mono ?_
  rintro e w5 ⟨a5, c5, rfl, own5, bel5⟩
  have R5 : Hid (Rd w5 a5 s.size (sb s)) := rd_of_owns own5 (sb_byte s)
  have F5 : Hid (Below w.heap.size w w5) := F3.out.trans ((below_drewN (Below.refl _ w3) q).trans (bel5.mono (by have := F3.out.size; simp; omega)))
  clear own5 bel5
  go_wp2_with fail
  refine (text_any _ _ _ s _ (by omega) R5.out).mono ?_
  rintro e w6 ⟨rfl, q2, rfl⟩
  go_wp2_with fail
  have HF : Hid (Below w.heap.size w (w5.drewN q2)) := below_drewN F5.out _
  generalize w5.drewN q2 = w6 at *
  go_loop [10, 11] (fun t i => ∃ (k M : Nat), k ≤ s.size ∧ i = .int .i64 k ∧ t = .int .i64 M ∧ M ≤ n + 2 + 6 * k ∧ Hid (M = n + 2 + (enc ((sb s).take k)).length)) (fun _ i => s.size - (intOf i).toNat)
  case atStart => exact ⟨0, n + 2, Nat.zero_le _, rfl, by go_num, by omega, by show _ = _; simp [enc]⟩
  case round =>
    obtain ⟨k, M, hk, rfl, rfl, hM, HK⟩ := hrel
    by_cases hlt : k < s.size
    · have he := enc_step s k _ hlt rfl
      have hel := enc1_len ((s[k]'hlt).toNat : Int)
      obtain ⟨D, hD⟩ : ∃ D, D = (enc1 ((s[k]'hlt).toNat : Int)).length := ⟨_, rfl⟩
      rw [← hD] at hel
      have HD : Hid (D = (enc1 ((s[k]'hlt).toNat : Int)).length) := hD
      have HKN : Hid (M + D = n + 2 + (enc ((sb s).take (k + 1))).length) := by
        show _ = _
        rw [he, List.length_append, HK.out, ← hD]; omega
      clear he hD
      go_wp2_with fail
      refine (len_any _ _ (Int.natCast_nonneg _) (by have := (s[k]'hlt).toNat_lt; omega)).mono ?_
      rintro e w7 ⟨rfl, rfl⟩
      rw [← HD.out]
      go_wp2
      go_round
      case rel => exact ⟨k + 1, M + D, by omega, by go_num, by go_num, by omega, HKN.out⟩
      case measure => simp [intOf]; omega
    · have e : N = M := by
        have := HK.out
        rw [List.take_of_length_le (by rw [length_sb]; omega)] at this
        rw [HM.out, this]
      have HE : Hid (N = M) := e
      clear e
      go_wp2
      go_ret
      refine ⟨?_, HF.out⟩
      have e := HE.out
      subst e
      simp
end Go.Proofs.Qxb6600726aMods.Short
