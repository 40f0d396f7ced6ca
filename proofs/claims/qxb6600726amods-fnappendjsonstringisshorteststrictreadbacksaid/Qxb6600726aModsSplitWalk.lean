/-
  THE WALK OF THE LAW 'FnAppendJSONStringSplitsAtAnyJoin' (function 4).
-/
import Derived.Test.Qxb6600726aModsAppWalk
import Derived.Test.Qxb6600726aModsEqWalk
namespace Go.Proofs.Qxb6600726aMods.Split
open Go.ChangeShapes Go.WideShapes Go.ChangeAt Go.RowKit
open Go.Proofs.Qxb6600726aMods.Nest Go.Proofs.Qxb6600726aMods.Clone Go.Proofs.Qxb6600726aMods.Json Go.Proofs.Qxb6600726aMods.App Go.Proofs.Qxb6600726aMods.Eq
set_option linter.unusedVariables false

/-! ### what is owned stays owned -/
theorem grown_of_below {w w' : World} (h : Below w.heap.size w w') : w.grownBy w' none := ⟨h.os, h.tape, h.output, h.size, fun k hk _ => h.block k hk⟩

theorem keep {w w' : World} {base n M : Nat} {v : Value} {xs : List Value} {row : Option Nat} (h : w.ownsRow base 5 1 v n xs) (hg : w.grownBy w' row) (hlt : ∀ k, v.ownBlock = some k → k < M) (hrow : ∀ k, row = some k → M ≤ k) : w'.ownsRow base 5 1 v n xs := by
  refine h.kept hg ?_
  cases hv : v.ownBlock with
  | none => exact .inl rfl
  | some k => exact .inr fun e => by have := hlt k hv; have := hrow k e.symm; omega

theorem own_lt {w : World} {base n : Nat} {v : Value} {xs : List Value} (h : w.ownsRow base 5 1 v n xs) : ∀ k, v.ownBlock = some k → k < w.heap.size := fun k hk => (h.lt k hk).2
theorem own_ge {w : World} {base n : Nat} {v : Value} {xs : List Value} (h : w.ownsRow base 5 1 v n xs) : ∀ k, v.ownBlock = some k → base ≤ k := fun k hk => (h.lt k hk).1

/-- A part of a row that is owned, read cell by cell. -/
theorem rd_part {w : World} {base N cap g lo m : Nat} {L M : List Int} (h : w.ownsRow base 5 1 (.slice (some ⟨g, 0, none⟩) N cap) N (L.map (Value.int .u8))) (hb : InByte L) (hm : lo + m ≤ N) (hM : (L.drop lo).take m = M) : Rd w (some ⟨g, lo, none⟩) m M := by
  obtain ⟨hl, h0 | ⟨g', hg', _, _, _, hc⟩⟩ := owns_cells h
  · simp at h0
  · simp only [Option.some.injEq, Addr.mk.injEq, and_true] at hg'
    subst hg'
    have hj : ∀ j, j < m → M.getD j 0 = L.getD (lo + j) 0 := fun j hj => by
      rw [← hM]; simp [List.getD, hj, List.getElem?_drop]
    refine ⟨by rw [← hM]; simp; omega, fun j => ?_, .inr ⟨g, lo, rfl, fun j hjm => by rw [hj j hjm]; exact hc (lo + j) (by omega)⟩⟩
    by_cases hjm : j < m
    · rw [hj j hjm]; exact hb _
    · have : M.getD j 0 = 0 := by rw [← hM, List.getD, List.getElem?_eq_none (by simp; omega)]; rfl
      rw [this]; omega

/-- The door, its list and its length under letters. -/
theorem door_L (B n N : Nat) (v : Value) (zs L : List Int) (s : ByteArray) (w : World) (hown : w.ownsRow B 5 1 v n (zs.map (Value.int .u8))) (hB : B ≤ w.heap.size) (hn : n ≤ 16777216) (hs : s.size ≤ 16777216) (hL : out zs (sb s) = L) (hN : L.length = N) :
    Calls Trym.prog 11 #[v, .string s] w fun e w' => ∃ g cap, e = .returned (.slice (some ⟨g, 0, none⟩) N cap) ∧
      w'.ownsRow B 5 1 (.slice (some ⟨g, 0, none⟩) N cap) N (L.map (Value.int .u8)) ∧ N ≤ cap ∧ w.grownBy w' v.ownBlock := by
  subst hL
  subst hN
  refine (door_any B n v zs s w hown hB hn hs).mono ?_
  rintro e w' ⟨g, cap, rfl, h1, h2⟩
  refine ⟨g, cap, rfl, h1, ?_, h2.1⟩
  obtain ⟨_, h0 | ⟨g', _, _, _, hc, _⟩⟩ := owns_cells h1
  · simp at h0
  · exact hc

theorem sb_add (s t : ByteArray) : sb (s ++ t) = sb s ++ sb t := by simp [sb]
theorem sb_byte (s : ByteArray) : InByte (sb s) := by
  intro j
  by_cases h : j < s.size
  · rw [sb_get s j h]
    have := (s[j]'h).toNat_lt
    omega
  · have : (sb s).getD j 0 = 0 := by rw [List.getD, List.getElem?_eq_none (by rw [length_sb]; omega)]; rfl
    rw [this]; omega

theorem split_long (a : Option Addr) (n cap : Nat) (s t : ByteArray) (w : World) (hn : n ≤ 9223372036854775807) (hs : s.size ≤ 9223372036854775807) (ht : t.size ≤ 9223372036854775807) (h : 1048576 < n + s.size + t.size) :
    Calls Trym.prog 4 #[.slice a n cap, .string s, .string t] w fun e w' => e = .returned (.bool true) ∧ Below w.heap.size w w' := by
  go_enter Trym.func4, Trym.ntmps4
  go_wp2
  all_goals (go_ret; exact ⟨rfl, Below.refl _ _⟩)

theorem inByte_of {l : List Int} (h : ∀ z ∈ l, 0 ≤ z ∧ z ≤ 255) : InByte l := by
  intro j
  by_cases hj : j < l.length
  · have : l.getD j 0 ∈ l := by simp [List.getD, hj]
    exact h _ this
  · have : l.getD j 0 = 0 := by rw [List.getD, List.getElem?_eq_none (by omega)]; rfl
    rw [this]; omega
theorem of_inByte {l : List Int} (h : InByte l) : ∀ z ∈ l, 0 ≤ z ∧ z ≤ 255 := by
  intro z hz
  obtain ⟨j, hj, rfl⟩ := List.getElem_of_mem hz
  have := h j
  rwa [List.getD, List.getElem?_eq_getElem hj] at this
theorem hexd_byte (d : Int) (h0 : 0 ≤ d) (h1 : d ≤ 15) : 0 ≤ hexd d ∧ hexd d ≤ 255 := by unfold hexd; split <;> omega
theorem enc1_byte (c : Int) (h0 : 0 ≤ c) (h1 : c ≤ 255) : ∀ z ∈ enc1 c, 0 ≤ z ∧ z ≤ 255 := by
  unfold enc1
  repeat' split
  all_goals simp
  all_goals first | omega | (have := hexd_byte (c / 16) (by omega) (by omega); have := hexd_byte (c % 16) (by omega) (by omega); omega)
theorem enc_byte : ∀ l : List Int, (∀ z ∈ l, 0 ≤ z ∧ z ≤ 255) → ∀ z ∈ enc l, 0 ≤ z ∧ z ≤ 255
  | [], _, z, hz => by simp [enc] at hz
  | c :: r, h, z, hz => by
    simp only [enc, List.mem_append] at hz
    rcases hz with hz | hz
    · exact enc1_byte c (h c (by simp)).1 (h c (by simp)).2 z hz
    · exact enc_byte r (fun z hz => h z (by simp [hz])) z hz
theorem out_byte {zs : List Int} (h : InByte zs) (s : ByteArray) : InByte (out zs (sb s)) := by
  refine inByte_of fun z hz => ?_
  simp only [out, List.mem_append, List.mem_singleton] at hz
  rcases hz with ((hz | rfl) | hz) | rfl
  · exact of_inByte h z hz
  · omega
  · exact enc_byte _ (of_inByte (sb_byte s)) z hz
  · omega

/-! ### the plain law: lengths and parts -/
section
variable (zs s t : List Int)
theorem p1 : (out zs s).take zs.length = zs := by simp [out]
theorem p2 : (out zs s).drop zs.length = out [] s := by simp [out]
theorem p3 : (out zs (s ++ t)).take ((out zs s).length - 1) = (out zs s).take ((out zs s).length - 1) := by
  have e : (out zs s).length - 1 = (zs ++ [34] ++ enc s).length := by simp [out]
  rw [e]
  have e1 : out zs (s ++ t) = (zs ++ [34] ++ enc s) ++ (enc t ++ [34]) := by simp [out, enc_append]
  have e2 : out zs s = (zs ++ [34] ++ enc s) ++ [34] := rfl
  rw [e1, e2, List.take_left, List.take_left]
theorem p4 : (out zs (s ++ t)).drop ((out zs s).length - 1) = (out [] t).drop 1 := by
  have e : (out zs s).length - 1 = (zs ++ [34] ++ enc s).length := by simp [out]
  rw [e]
  have e1 : out zs (s ++ t) = (zs ++ [34] ++ enc s) ++ (enc t ++ [34]) := by simp [out, enc_append]
  rw [e1, List.drop_left]
  simp [out]
theorem l1 : (out zs s).length = zs.length + (out [] s).length := by simp [out]
theorem l2 : (out zs (s ++ t)).length + 2 = (out zs s).length + (out [] t).length := by simp [out, enc_append]; omega
theorem l3 : 2 ≤ (out zs s).length := by simp [out]; omega
theorem l4 : (out zs s).length ≤ zs.length + 2 + 6 * s.length := by have := enc_len s; simp [out]; omega
end

theorem eq_len (a a' : Option Addr) (n n' c c' q : Nat) (zs : List Int) (w : World) (hn : n ≤ 1073741824) (hnn : n = n') (h : Rd w a n zs) (h' : Rd w a' n zs) :
    Calls Trym.prog 12 #[.slice a n c, .slice a' n' c'] (w.drewN q) fun e w' => e = .returned (.bool true) ∧ ∃ q', w' = (w.drewN q).drewN q' := by
  subst hnn
  exact eq_any a a' n c c' zs (w.drewN q) hn h h'

theorem eq_quiet (a a' : Option Addr) (n n' c c' M x : Nat) (zs : List Int) (w : World) (hn : n ≤ 1073741824) (hnn : n = n') (h : Rd w a n zs) (h' : Rd w a' n zs) :
    Calls Trym.prog 12 #[.slice a n c, .slice a' n' c'] (w.drewN (M + x)) fun e w'' => e = .returned (.bool true) ∧ ∃ y, w'' = w.drewN (M + y) := by
  subst hnn
  refine (eq_any a a' n c c' zs (w.drewN (M + x)) hn h h').mono ?_
  rintro e w' ⟨rfl, q, rfl⟩
  exact ⟨rfl, x + q, by rw [World.drewN_drewN, Nat.add_assoc]⟩

set_option maxHeartbeats 1600000 in
theorem split_short (a : Option Addr) (n cap : Nat) (zs : List Int) (s t : ByteArray) (w : World) (hn : n + s.size + t.size ≤ 1048576) (hb : InByte zs) (h : Src w a n cap zs) :
    Calls Trym.prog 4 #[.slice a n cap, .string s, .string t] w fun e w' => e = .returned (.bool true) ∧ Below w.heap.size w w' := by
  have hzl : zs.length = n := h.1
  obtain ⟨LW, hLW⟩ : ∃ L, out zs (sb (s ++ t)) = L := ⟨_, rfl⟩
  obtain ⟨LL, hLL⟩ : ∃ L, out zs (sb s) = L := ⟨_, rfl⟩
  obtain ⟨LA, hLA⟩ : ∃ L, out [] (sb s) = L := ⟨_, rfl⟩
  obtain ⟨LR, hLR⟩ : ∃ L, out [] (sb t) = L := ⟨_, rfl⟩
  obtain ⟨NW, hNW⟩ : ∃ N, LW.length = N := ⟨_, rfl⟩
  obtain ⟨NL, hNL⟩ : ∃ N, LL.length = N := ⟨_, rfl⟩
  obtain ⟨NA, hNA⟩ : ∃ N, LA.length = N := ⟨_, rfl⟩
  obtain ⟨NR, hNR⟩ : ∃ N, LR.length = N := ⟨_, rfl⟩
  have bW : Hid (InByte LW) := by rw [← hLW]; exact out_byte hb _
  have bL : Hid (InByte LL) := by rw [← hLL]; exact out_byte hb _
  have bA : Hid (InByte LA) := by rw [← hLA]; exact out_byte (inByte_of (by simp)) _
  have bR : Hid (InByte LR) := by rw [← hLR]; exact out_byte (inByte_of (by simp)) _
  have q1 : Hid (LL.take n = zs) := by rw [← hLL, ← hzl]; exact p1 zs (sb s)
  have q2 : Hid (LL.drop n = LA) := by rw [← hLL, ← hLA, ← hzl]; exact p2 zs (sb s)
  have q3 : Hid (LW.take (NL - 1) = LL.take (NL - 1)) := by rw [← hLW, ← hNL, ← hLL, sb_add]; exact p3 zs (sb s) (sb t)
  have q4 : Hid (LW.drop (NL - 1) = LR.drop 1) := by rw [← hLW, ← hNL, ← hLL, ← hLR, sb_add]; exact p4 zs (sb s) (sb t)
  have m1 := l1 zs (sb s)
  have m2 := l2 zs (sb s) (sb t)
  have m3 := l3 [] (sb s)
  have m4 := l3 [] (sb t)
  have m5 := l4 zs (sb s)
  have m6 := l4 [] (sb t)
  rw [← sb_add] at m2
  rw [hLL, hNL, hLA, hNA, hzl] at m1
  rw [hLW, hLL, hLR, hNW, hNL, hNR] at m2
  rw [hLA, hNA] at m3
  rw [hLR, hNR] at m4
  rw [hLL, hNL, hzl, length_sb] at m5
  rw [hLR, hNR, length_sb] at m6
  simp only [List.length_nil, Nat.zero_add] at m6
  have d1 : NL ≤ n + NA := by omega
  have d2 : n + NA ≤ NL := by omega
  have d3 : NW + 2 ≤ NL + NR := by omega
  have d4 : NL + NR ≤ NW + 2 := by omega
  have d5 : NL ≤ 16777216 := by omega
  have d6 : NR ≤ 16777216 := by omega
  have hst : (s ++ t).size ≤ 16777216 := by rw [← length_sb, sb_add, List.length_append, length_sb, length_sb]; omega
  have HST : Hid ((s ++ t).size ≤ 16777216) := hst
  have HLW : Hid (out zs (sb (s ++ t)) = LW) := hLW
  have HLL : Hid (out zs (sb s) = LL) := hLL
  have HLA : Hid (out [] (sb s) = LA) := hLA
  have HLR : Hid (out [] (sb t) = LR) := hLR
  have HNW : Hid (LW.length = NW) := hNW
  have HNL : Hid (LL.length = NL) := hNL
  have HNA : Hid (LA.length = NA) := hNA
  have HNR : Hid (LR.length = NR) := hNR
  have HZL : Hid (zs.length = n) := hzl
  have HS : Hid (Src w a n cap zs) := h
  have HBy : Hid (InByte zs) := hb
  clear hLW hLL hLA hLR hNW hNL hNA hNR hzl h hb m1 m2 m5 m6 hst
  go_enter Trym.func4, Trym.ntmps4
  go_wp2_with (first | (go_at_call 16; go_in))
  refine (clone_any a n cap zs _ (by omega) HS.out).mono ?_
  rintro e w1 ⟨a1, c1, rfl, own1, bel1⟩
  go_wp2_with fail
  refine (clone_any a1 n c1 zs _ (by omega) (src_of_owns own1)).mono ?_
  rintro e w2 ⟨a2, c2, rfl, own2, bel2⟩
  have own1b := keep own1 (grown_of_below bel2) (own_lt own1) (by simp)
  go_wp2_with fail
  have z1 := bel1.size
  have z2 := bel2.size
  refine (door_L w1.heap.size n NW _ zs LW (s ++ t) _ own2 (by omega) (by omega) HST.out HLW.out HNW.out).mono ?_
  rintro e w3 ⟨g3, c3, rfl, own3, k3, gr3⟩
  have own1c := keep own1b gr3 (own_lt own1) (own_ge own2)
  have z3 := gr3.size
  go_wp2_with fail
  refine (clone_any a1 n c1 zs _ (by omega) (src_of_owns own1c)).mono ?_
  rintro e w4 ⟨a4, c4, rfl, own4, bel4⟩
  have z4 := bel4.size
  have own1d := keep own1c (grown_of_below bel4) (own_lt own1) (by simp)
  have own3b := keep own3 (grown_of_below bel4) (own_lt own3) (by simp)
  go_wp2_with fail
  refine (door_L w3.heap.size n NL _ zs LL s _ own4 (by omega) (by omega) (by omega) HLL.out HNL.out).mono ?_
  rintro e w5 ⟨g5, c5, rfl, own5, k5, gr5⟩
  have z5 := gr5.size
  have own1e := keep own1d gr5 (own_lt own1c) (own_ge own4)
  have own3c := keep own3b gr5 (own_lt own3) (own_ge own4)
  go_wp2_with fail
  refine (door_L w5.heap.size 0 NA _ [] LA s _ (World.ownsRow_nil _ _ _ _) (by omega) (by omega) (by omega) HLA.out HNA.out).mono ?_
  rintro e w6 ⟨g6, c6, rfl, own6, k6, gr6⟩
  have z6 := gr6.size
  have own1f := keep own1e gr6 (own_lt own1e) (by simp [Value.ownBlock])
  have own3d := keep own3c gr6 (own_lt own3c) (by simp [Value.ownBlock])
  have own5b := keep own5 gr6 (own_lt own5) (by simp [Value.ownBlock])
  go_wp2_with fail
  refine (door_L w6.heap.size 0 NR _ [] LR t _ (World.ownsRow_nil _ _ _ _) (by omega) (by omega) (by omega) HLR.out HNR.out).mono ?_
  rintro e w7 ⟨g7, c7, rfl, own7, k7, gr7⟩
  have z7 := gr7.size
  have own1g := keep own1f gr7 (own_lt own1f) (by simp [Value.ownBlock])
  have own3e := keep own3d gr7 (own_lt own3d) (by simp [Value.ownBlock])
  have own5c := keep own5b gr7 (own_lt own5b) (by simp [Value.ownBlock])
  have own6b := keep own6 gr7 (own_lt own6) (by simp [Value.ownBlock])
  have fin : Hid (Below w.heap.size w w7) := by
    show Below _ _ _
    have f2 := bel1.grown (grown_of_below bel2) z1 (by simp)
    have f3 := f2.grown gr3 (by omega) (fun k hk => by have := own_ge own2 k hk; omega)
    have f4 := f3.grown (grown_of_below bel4) (by omega) (by simp)
    have f5 := f4.grown gr5 (by omega) (fun k hk => by have := own_ge own4 k hk; omega)
    have f6 := f5.grown gr6 (by omega) (by simp [Value.ownBlock])
    exact f6.grown gr7 (by omega) (by simp [Value.ownBlock])
  clear own1 own1b own1c own1d own1e own1f own3 own3b own3c own3d own2 own4 own5 own5b own6 bel1 bel2 bel4 gr3 gr5 gr6 gr7 z1 z2 z3 z4 z5 z6 z7
  have R1 : Hid (Rd w7 (some ⟨g5, 0, none⟩) n zs) := rd_part (lo := 0) own5c bL.out (by omega) (by simpa using q1.out)
  have R2 : Hid (Rd w7 a1 n zs) := rd_of_owns own1g HBy.out
  have R3 : Hid (Rd w7 (some ⟨g5, n, none⟩) (NL - n) LA) := rd_part (lo := n) own5c bL.out (by omega) (by rw [q2.out, List.take_of_length_le (by have := HNA.out; omega)])
  have R4 : Hid (Rd w7 (some ⟨g6, 0, none⟩) (NL - n) LA) := by
    have e : NL - n = NA := by omega
    rw [e]; exact rd_of_owns own6b bA.out
  have R5 : Hid (Rd w7 (some ⟨g3, 0, none⟩) (NL - 1) (LL.take (NL - 1))) := rd_part (lo := 0) own3e bW.out (by omega) (by simpa using q3.out)
  have R6 : Hid (Rd w7 (some ⟨g5, 0, none⟩) (NL - 1) (LL.take (NL - 1))) := rd_part (lo := 0) own5c bL.out (by omega) (by simp)
  have R7 : Hid (Rd w7 (some ⟨g3, NL - 1, none⟩) (NW - (NL - 1)) (LR.drop 1)) := rd_part (lo := NL - 1) own3e bW.out (by omega) (by rw [q4.out, List.take_of_length_le (by have := HNR.out; simp; omega)])
  have R8 : Hid (Rd w7 (some ⟨g7, 1, none⟩) (NW - (NL - 1)) (LR.drop 1)) := rd_part (lo := 1) own7 bR.out (by omega) (by rw [List.take_of_length_le (by have := HNR.out; simp; omega)])
  clear own1g own3e own5c own6b own7
  go_wp2_with fail
  refine (eq_any _ _ n _ _ zs _ (by omega) R1.out R2.out).mono ?_
  rintro e w8 ⟨rfl, q, rfl⟩
  go_wp2_with fail
  refine (eq_len _ _ (NL - n) NA _ _ q LA w7 (by omega) (by omega) R3.out R4.out).mono ?_
  rintro e w9 ⟨rfl, q2, rfl⟩
  go_wp2_with fail
  have i1 : (0 : Int) ≤ (NL : Int) - 1 := by omega
  have i2 : (NL : Int) - 1 ≤ (c3 : Int) := by omega
  have i3 : (NL : Int) - 1 ≤ (c5 : Int) := by omega
  have i4 : (NL : Int) - 1 ≤ (NW : Int) := by omega
  have i5 : (NW : Int) ≤ (c3 : Int) := by omega
  have i6 : (1 : Int) ≤ (NR : Int) := by omega
  have i7 : (NR : Int) ≤ (c7 : Int) := by omega
  have i8 : ¬ c3 = NL - 1 := by omega
  have i9 : ¬ c7 = 1 := by omega
  refine wp_region_quiet_lit (by kernel_rfl) (by kernel_rfl) ?_
  repeat (first | go_big_quiet_step ((first | (go_at_call_of 12 g7; exact eq_quiet _ _ (NW - (NL - 1)) (NR - 1) _ _ (q + q2) _ (LR.drop 1) w7 (by omega) (by omega) R7.out R8.out) | (go_at_call_of 12 g5; exact eq_quiet _ _ (NL - 1) (NL - 1) _ _ (q + q2) _ (LL.take (NL - 1)) w7 (by omega) rfl R5.out R6.out))) | quiet_step ((first | (go_at_call_of 12 g7; exact eq_quiet _ _ (NW - (NL - 1)) (NR - 1) _ _ (q + q2) _ (LR.drop 1) w7 (by omega) (by omega) R7.out R8.out) | (go_at_call_of 12 g5; exact eq_quiet _ _ (NL - 1) (NL - 1) _ _ (q + q2) _ (LL.take (NL - 1)) w7 (by omega) rfl R5.out R6.out))))
  refine wpQuiet_nil ?_
  intro _ hw'
  obtain ⟨nq, hw''⟩ := hw'
  subst hw''
  go_wp2
  go_ret
  exact ⟨rfl, below_drewN (below_drewN fin.out _) _⟩
end Go.Proofs.Qxb6600726aMods.Split
