/-
  THE WALK OF THE LAW 'FnNestingWrappedOnceNestsOneDeeper' (function 7).
-/
import Derived.Test.Qxb6600726aModsClone
namespace Go.Proofs.Qxb6600726aMods.Wrap
open Go.ChangeShapes Go.WideShapes Go.ChangeAt Go.RowKit
open Go.Proofs.Qxb6600726aMods.Plain Go.Proofs.Qxb6600726aMods.Nest Go.Proofs.Qxb6600726aMods.Clone
set_option linter.unusedVariables false

theorem kept_row {w w' w0 : World} {base base0 g n : Nat} {v : Value} {xs : List Value} (h : w.ownsRow base 5 1 v n xs) (hg : w.grownBy w' (some g)) (h0 : w0.ownsRow base0 5 1 v n xs) (hlt : w0.heap.size ≤ g) : w'.ownsRow base 5 1 v n xs := by
  refine h.kept hg ?_
  cases hv : v.ownBlock with
  | none => exact .inl rfl
  | some k => exact .inr fun e => by have := (h0.lt k hv).2; simp only [Option.some.injEq] at e; omega

theorem kept_none {w w' : World} {base n : Nat} {v : Value} {xs : List Value} (h : w.ownsRow base 5 1 v n xs) (hg : w.grownBy w' none) : w'.ownsRow base 5 1 v n xs := by
  refine h.kept hg ?_
  cases hv : v.ownBlock with
  | none => exact .inl rfl
  | some k => exact .inr fun e => by simp at e

theorem src_none {w : World} {base n cap : Nat} {a : Option Addr} {xs : List Value} (h : w.ownsRow base 5 1 (.slice a n cap) n xs) : a = none → n = 0 ∧ cap = 0 := by
  rintro rfl
  rcases h.2 with ⟨hv, h0⟩ | ⟨g, cp, cur, hv, _⟩
  · simp only [Value.slice.injEq] at hv
    exact ⟨h0, hv.2.2⟩
  · simp at hv

theorem src_cells {w : World} {base n cap : Nat} {a : Option Addr} {xs : List Value} (h : w.ownsRow base 5 1 (.slice a n cap) n xs) : ∀ ad, a = some ad → ∀ j u, xs[j]? = some u → w.cell? (ad.add j) = some u := by
  rintro ad rfl j u hu
  rcases h.2 with ⟨hv, h0⟩ | ⟨g, cp, cur, hv, _⟩
  · simp at hv
  · simp only [Value.slice.injEq, Option.some.injEq] at hv
    obtain ⟨rfl, _, rfl⟩ := hv
    exact h.cells (g := g) rfl j u hu

theorem inByte_append {x y : List Int} (hx : InByte x) (hy : InByte y) : InByte (x ++ y) := by
  intro j
  by_cases h : j < x.length
  · have e : (x ++ y).getD j 0 = x.getD j 0 := by simp [List.getD, List.getElem?_append_left h]
    rw [e]; exact hx j
  · have e : (x ++ y).getD j 0 = y.getD (j - x.length) 0 := by simp [List.getD, List.getElem?_append_right (Nat.le_of_not_lt h)]
    rw [e]; exact hy _
theorem inByte_one {c : Int} (h0 : 0 ≤ c) (h1 : c ≤ 255) : InByte [c] := by
  intro j
  cases j with
  | zero => exact ⟨h0, h1⟩
  | succ j => simp

theorem wrap_long (a : Option Addr) (n cap : Nat) (cu : Bool) (w : World) (hn : 1048576 < n) (hm : n ≤ 9223372036854775807) :
    Calls Trym.prog 7 #[.slice a n cap, .bool cu] w fun e w' => e = .returned (.bool true) ∧ Below w.heap.size w w' := by
  go_enter Trym.func7, Trym.ntmps7
  go_wp2
  go_ret
  exact ⟨rfl, Below.refl _ _⟩

set_option maxHeartbeats 400000 in
theorem wrap_short (a : Option Addr) (n cap : Nat) (zs : List Int) (w : World) (hn : n ≤ 1048576) (hb : InByte zs) (h : Src w a n cap zs) :
    Calls Trym.prog 7 #[.slice a n cap, .bool false] w fun e w' => e = .returned (.bool true) ∧ Below w.heap.size w w' := by
  obtain ⟨i0, hi, hz0, hz1, hz2⟩ := info_parts info5
  have HI : Hid (Trym.prog.info? 5 = some i0) := hi
  have H1 : Hid (i0.size = 1) := hz1
  have H2 : Hid (i0.bytes = 1) := hz2
  clear hi hz1 hz2
  have HS : Hid (Src w a n cap zs) := h
  have HBy : Hid (InByte zs) := hb
  clear h hb
  go_enter Trym.func7, Trym.ntmps7
  go_wp2_with (first | (go_at_call 21; go_in))
  refine (clone_any a n cap zs _ (by omega) HS.out).mono ?_
  rintro e w1 ⟨a1, c1, rfl, hown1, hbel1⟩
  go_wp2_with (first
    | (at_make; refine wpList_make_own _ rfl (.const (.int .i64 0)) (.tmp 20) 22 rfl w1.heap.size 5 i0 (.int .u8 0) 1 Trym.underlying22 HI.out hz0 H1.out .i64 .i64 _ (n + 2) rfl rfl (by omega) (by rw [H2.out]; omega) (by unfold maxLen; omega) (Nat.le_refl _) ?_; intro w2 hown2 hg2; have hd2 := kept_none hown1 hg2)
    | (at_builtin; refine wpList_append_fits _ rfl (.tmp 22) (.tmp 24) 22 rfl w1.heap.size 5 i0 1 Trym.underlying22 HI.out H1.out w1.heap.size 0 (n + 2) [] rfl (hown2.alloc _) ⟨w2.heap.size, 0, none⟩ 1 1 [.int .u8 91] rfl rfl (cell_one_new _ _ _) (by simp [Value.oneCell']) (by omega) ?_; intro w3 hown3 hg3; simp only [Nat.zero_add, List.nil_append] at hown3; have hd3 := kept_row (hd2.alloc _) hg3 hown1 (Nat.le_refl _))
    | (at_builtin; refine wpList_append_fits_any _ rfl (.tmp 26) (.tmp 27) 22 rfl w1.heap.size 5 i0 1 Trym.underlying22 HI.out H1.out w1.heap.size 1 (n + 2) [.int .u8 91] rfl hown3 a1 n c1 (zs.map (Value.int .u8)) rfl hd3.1 (src_none hown1) (src_cells hd3) (ints_oneCell _ _) (by omega) ?_; intro w4 hown4 hg4; have hd4 := kept_row hd3 hg4 hown1 (Nat.le_refl _))
    | (at_builtin; refine wpList_append_fits _ rfl (.tmp 29) (.tmp 31) 22 rfl w1.heap.size 5 i0 1 Trym.underlying22 HI.out H1.out w1.heap.size (1 + n) (n + 2) _ rfl (hown4.alloc _) ⟨w4.heap.size, 0, none⟩ 1 1 [.int .u8 93] rfl rfl (cell_one_new _ _ _) (by simp [Value.oneCell']) (by omega) ?_; intro w5 hown5 hg5; have hd5 := kept_row (hd4.alloc _) hg5 hown1 (Nat.le_refl _)))
  have hR5 : Rd w5 (some ⟨w1.heap.size, 0, none⟩) (1 + n + 1) ([91] ++ zs ++ [93]) := rd_of_owns (cap := n + 2) (by simpa using hown5) (inByte_append (inByte_append (inByte_one (by omega) (by omega)) HBy.out) (inByte_one (by omega) (by omega)))
  have hR0 : Rd w5 a1 n zs := rd_of_owns hd5 HBy.out
  have hT := wrapped 91 93 (by omega) (by omega) zs
  have hbd := nrun_bounds zs 0 0 0 (by omega)
  rw [hR0.1] at hbd
  generalize hL : [91] ++ zs ++ [93] = L at *
  obtain ⟨T, hTT⟩ : ∃ T, T = nrun zs 0 0 0 := ⟨_, rfl⟩
  rw [← hTT] at hT hbd
  have hb1 : 0 ≤ T := by omega
  have hb2 : T ≤ 1048576 := by omega
  have HT : Hid (T = nrun zs 0 0 0) := hTT
  have HE : Hid (nrun L 0 0 0 = T + 1) := hT
  have H5 : Hid (Rd w5 (some ⟨w1.heap.size, 0, none⟩) (1 + n + 1) L) := hR5
  have H0 : Hid (Rd w5 a1 n zs) := hR0
  clear hT hTT hL hR5 hR0 hbd
  refine (door_any _ _ _ L _ (by omega) H5.out).mono ?_
  rintro e w6 ⟨rfl, rfl⟩
  rw [HE.out]
  go_wp2_with fail
  refine (door_any _ _ _ zs _ (by omega) H0.out).mono ?_
  rintro e w7 ⟨rfl, rfl⟩
  rw [← HT.out]
  go_wp2
  go_ret
  have hs2 := hg2.size
  have hs1 := hbel1.size
  refine ⟨by simp, ?_⟩
  exact ((((hbel1.grown hg2 hs1 (by simp)).alloc (by omega) _).grown hg3 (by simp; omega) (by simp; omega)).grown hg4 (by have := hg3.size; simp at this; omega) (by simp; omega)).alloc (by have := hg3.size; have := hg4.size; simp at *; omega) _ |>.grown hg5 (by have := hg3.size; have := hg4.size; simp at *; omega) (by simp; omega)

set_option maxHeartbeats 400000 in
theorem wrap_shortC (a : Option Addr) (n cap : Nat) (zs : List Int) (w : World) (hn : n ≤ 1048576) (hb : InByte zs) (h : Src w a n cap zs) :
    Calls Trym.prog 7 #[.slice a n cap, .bool true] w fun e w' => e = .returned (.bool true) ∧ Below w.heap.size w w' := by
  obtain ⟨i0, hi, hz0, hz1, hz2⟩ := info_parts info5
  have HI : Hid (Trym.prog.info? 5 = some i0) := hi
  have H1 : Hid (i0.size = 1) := hz1
  have H2 : Hid (i0.bytes = 1) := hz2
  clear hi hz1 hz2
  have HS : Hid (Src w a n cap zs) := h
  have HBy : Hid (InByte zs) := hb
  clear h hb
  go_enter Trym.func7, Trym.ntmps7
  go_wp2_with (first | (go_at_call 21; go_in))
  refine (clone_any a n cap zs _ (by omega) HS.out).mono ?_
  rintro e w1 ⟨a1, c1, rfl, hown1, hbel1⟩
  go_wp2_with (first
    | (at_make; refine wpList_make_own _ rfl (.const (.int .i64 0)) (.tmp 20) 22 rfl w1.heap.size 5 i0 (.int .u8 0) 1 Trym.underlying22 HI.out hz0 H1.out .i64 .i64 _ (n + 2) rfl rfl (by omega) (by rw [H2.out]; omega) (by unfold maxLen; omega) (Nat.le_refl _) ?_; intro w2 hown2 hg2; have hd2 := kept_none hown1 hg2)
    | (at_builtin; refine wpList_append_fits _ rfl (.tmp 22) (.tmp 24) 22 rfl w1.heap.size 5 i0 1 Trym.underlying22 HI.out H1.out w1.heap.size 0 (n + 2) [] rfl (hown2.alloc _) ⟨w2.heap.size, 0, none⟩ 1 1 [.int .u8 123] rfl rfl (cell_one_new _ _ _) (by simp [Value.oneCell']) (by omega) ?_; intro w3 hown3 hg3; simp only [Nat.zero_add, List.nil_append] at hown3; have hd3 := kept_row (hd2.alloc _) hg3 hown1 (Nat.le_refl _))
    | (at_builtin; refine wpList_append_fits_any _ rfl (.tmp 26) (.tmp 27) 22 rfl w1.heap.size 5 i0 1 Trym.underlying22 HI.out H1.out w1.heap.size 1 (n + 2) [.int .u8 123] rfl hown3 a1 n c1 (zs.map (Value.int .u8)) rfl hd3.1 (src_none hown1) (src_cells hd3) (ints_oneCell _ _) (by omega) ?_; intro w4 hown4 hg4; have hd4 := kept_row hd3 hg4 hown1 (Nat.le_refl _))
    | (at_builtin; refine wpList_append_fits _ rfl (.tmp 29) (.tmp 31) 22 rfl w1.heap.size 5 i0 1 Trym.underlying22 HI.out H1.out w1.heap.size (1 + n) (n + 2) _ rfl (hown4.alloc _) ⟨w4.heap.size, 0, none⟩ 1 1 [.int .u8 125] rfl rfl (cell_one_new _ _ _) (by simp [Value.oneCell']) (by omega) ?_; intro w5 hown5 hg5; have hd5 := kept_row (hd4.alloc _) hg5 hown1 (Nat.le_refl _)))
  have hR5 : Rd w5 (some ⟨w1.heap.size, 0, none⟩) (1 + n + 1) ([123] ++ zs ++ [125]) := rd_of_owns (cap := n + 2) (by simpa using hown5) (inByte_append (inByte_append (inByte_one (by omega) (by omega)) HBy.out) (inByte_one (by omega) (by omega)))
  have hR0 : Rd w5 a1 n zs := rd_of_owns hd5 HBy.out
  have hT := wrapped 123 125 (by omega) (by omega) zs
  have hbd := nrun_bounds zs 0 0 0 (by omega)
  rw [hR0.1] at hbd
  generalize hL : [123] ++ zs ++ [125] = L at *
  obtain ⟨T, hTT⟩ : ∃ T, T = nrun zs 0 0 0 := ⟨_, rfl⟩
  rw [← hTT] at hT hbd
  have hb1 : 0 ≤ T := by omega
  have hb2 : T ≤ 1048576 := by omega
  have HT : Hid (T = nrun zs 0 0 0) := hTT
  have HE : Hid (nrun L 0 0 0 = T + 1) := hT
  have H5 : Hid (Rd w5 (some ⟨w1.heap.size, 0, none⟩) (1 + n + 1) L) := hR5
  have H0 : Hid (Rd w5 a1 n zs) := hR0
  clear hT hTT hL hR5 hR0 hbd
  refine (door_any _ _ _ L _ (by omega) H5.out).mono ?_
  rintro e w6 ⟨rfl, rfl⟩
  rw [HE.out]
  go_wp2_with fail
  refine (door_any _ _ _ zs _ (by omega) H0.out).mono ?_
  rintro e w7 ⟨rfl, rfl⟩
  rw [← HT.out]
  go_wp2
  go_ret
  have hs2 := hg2.size
  have hs1 := hbel1.size
  refine ⟨by simp, ?_⟩
  exact ((((hbel1.grown hg2 hs1 (by simp)).alloc (by omega) _).grown hg3 (by simp; omega) (by simp; omega)).grown hg4 (by have := hg3.size; simp at this; omega) (by simp; omega)).alloc (by have := hg3.size; have := hg4.size; simp at *; omega) _ |>.grown hg5 (by have := hg3.size; have := hg4.size; simp at *; omega) (by simp; omega)

end Go.Proofs.Qxb6600726aMods.Wrap
