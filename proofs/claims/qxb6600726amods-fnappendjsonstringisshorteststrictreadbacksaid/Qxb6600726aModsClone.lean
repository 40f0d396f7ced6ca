/-
  THE WALK OF 'cloneBytesSsb1' (function 10): nil stays nil; else a new row that owns the same bytes. Small laws between 'ownsRow' and 'Rd'.
-/
import Derived.Test.Qxb6600726aModsNestWalk
import Derived.Laws.CopyOwn
import Derived.OpenShut
namespace Go.Proofs.Qxb6600726aMods.Clone
open Go.ChangeShapes Go.WideShapes Go.ChangeAt Go.RowKit
open Go.Proofs.Qxb6600726aMods.Plain Go.Proofs.Qxb6600726aMods.Nest
set_option linter.unusedVariables false

theorem info5 : (Trym.prog.info? 5).map (fun i => (i.zero, i.size, i.bytes)) = some (some (.int .u8 0), 1, 1) := by kernel_rfl
theorem size5 : (Trym.prog.info? 5).map (·.size) = some 1 := by kernel_rfl

theorem make_row (n : Nat) (hn : n ≤ 1073741824) : ∃ Z : List Value, Z.length = n ∧ ∀ w : World,
    (Instr.makeSlice 22 (.int .i64 (n : Int)) (.int .i64 (n : Int))).run Trym.prog w = .ok (.slice (some ⟨w.heap.size, 0, none⟩) n n) (w.alloc (.cells Z.toArray 5)) := by
  obtain ⟨i, hi, hz0, hz1, hz2⟩ := info_parts info5
  refine ⟨(madeCells (Value.int .u8 0).cells n).toList, by simp [size_madeCells], fun w => ?_⟩
  have h := run_make (P := Trym.prog) w 22 5 i (.int .u8 0) Trym.underlying22 hi hz0 .i64 .i64 (n : Int) (n : Int) (by omega) (by omega) (by rw [hz2]; omega) (by omega)
  rw [hz1] at h
  simpa using h

theorem splice_all (Z cs : List Value) (h : cs.length = Z.length) : splice Z 0 cs = cs := by
  simp [splice, h]

set_option maxHeartbeats 400000 in
theorem clone_nil (w : World) : Calls Trym.prog 10 #[.slice none 0 0] w fun e w' => e = .returned (.slice none 0 0) ∧ w' = w := by
  have hnil := fun wx : World => Lib.run_eql_slice_nil (P := Trym.prog) wx 22 5 none 0 0 0 0 Trym.underlying22
  go_enter Trym.func10, Trym.ntmps10
  go_wp2
  go_ret
  exact ⟨rfl, rfl⟩

set_option maxHeartbeats 400000 in
theorem clone_some (x : Addr) (n cap : Nat) (zs : List Int) (w : World) (hn : n ≤ 1073741824) (hl : zs.length = n)
    (hcell : ∀ j, j < n → w.cell? (x.add j) = some (.int .u8 (zs.getD j 0))) :
    Calls Trym.prog 10 #[.slice (some x) n cap] w fun e w' => e = .returned (.slice (some ⟨w.heap.size, 0, none⟩) n n) ∧
      w'.heap[w.heap.size]? = some (.cells (zs.map (Value.int .u8)).toArray 5 (0, 0)) ∧ Below w.heap.size w w' := by
  have hnil := fun wx : World => Lib.run_eql_slice_nil (P := Trym.prog) wx 22 5 (some x) n cap 0 0 Trym.underlying22
  obtain ⟨Z, hZ, hmk⟩ := make_row n hn
  have hB0 : Below w.heap.size w (w.alloc (.cells Z.toArray 5)) := (Below.refl _ _).alloc (Nat.le_refl _) _
  have hG0 : (w.alloc (.cells Z.toArray 5)).heap[w.heap.size]? = some (.cells Z.toArray 5 (0, 0)) := heap_alloc_new w _
  have HB : Hid (Below w.heap.size w (w.alloc (.cells Z.toArray 5))) := hB0
  have HG : Hid ((w.alloc (.cells Z.toArray 5)).heap[w.heap.size]? = some (.cells Z.toArray 5 (0, 0))) := hG0
  obtain ⟨cs, hcs⟩ : ∃ cs, cs = zs.map (Value.int .u8) := ⟨_, rfl⟩
  have hcl : cs.length = n := by rw [hcs]; simpa using hl
  have hsrc : ∀ j v, cs[j]? = some v → (w.alloc (.cells Z.toArray 5)).cell? (x.add j) = some v := by
    intro j v hv
    have hj : j < n := by rw [← hcl]; exact (List.getElem?_eq_some_iff.1 hv).1
    have hc := hcell j hj
    rw [hcs] at hv
    have e : (zs.map (Value.int .u8))[j]? = some (.int .u8 (zs.getD j 0)) := by simp [List.getD, show j < zs.length by omega]
    rw [e] at hv
    obtain rfl := Option.some.inj hv
    rw [hB0.cell (World.block_lt_of_cell? w _ hc)]
    exact hc
  have h1 : ∀ v ∈ cs, v.oneCell' = true := by rw [hcs]; exact ints_oneCell .u8 zs
  have HS : Hid (∀ j v, cs[j]? = some v → (w.alloc (.cells Z.toArray 5)).cell? (x.add j) = some v) := hsrc
  have H1 : Hid (∀ v ∈ cs, v.oneCell' = true) := h1
  have HC : Hid (cs = zs.map (Value.int .u8)) := hcs
  have HL : Hid (cs.length = n) := hcl
  have HZ : Hid (Z.length = n) := hZ
  clear hsrc h1 hcs hcl hB0 hG0 hcell hZ
  rw [← HC.out]
  go_enter Trym.func10, Trym.ntmps10
  go_wp2_with (refine wpList_copy_splice rfl (.tmp 9) (.tmp 10) 22 22 rfl 5 Trym.underlying22 size5 (some ⟨w.heap.size, 0, none⟩) (some x) n n n cap rfl rfl w.heap.size 0 Z 5 HG.out cs (by rw [HL.out]; exact (Nat.min_self n).symm) (fun _ => ⟨rfl, x, rfl, HS.out⟩) (by rw [HL.out, HZ.out]; omega) H1.out w.heap.size w HB.out (Nat.le_refl _) ?_; intro w2 HG2 HB2)
  have hz := HZ.out
  have hl2 := HL.out
  go_ret
  exact ⟨rfl, by rw [HG2.out, splice_all _ _ (by omega)], HB2⟩

/-- WHAT 'cloneBytesSsb1' ASKS OF ITS ARGUMENT: nil; or an address whose first n cells are the bytes zs. -/
def Src (w : World) (a : Option Addr) (n cap : Nat) (zs : List Int) : Prop :=
  zs.length = n ∧ ((a = none ∧ n = 0 ∧ cap = 0) ∨ ∃ x, a = some x ∧ ∀ j, j < n → w.cell? (x.add j) = some (.int .u8 (zs.getD j 0)))

def InByte (zs : List Int) : Prop := ∀ j, 0 ≤ zs.getD j 0 ∧ zs.getD j 0 ≤ 255

theorem owns_of_block {w : World} {base g n : Nat} {xs : List Value} (hb : base ≤ g) (hg : w.heap[g]? = some (.cells xs.toArray 5 (0, 0))) (hl : xs.length = n) (hm : n ≤ 1073741824) :
    w.ownsRow base 5 1 (.slice (some ⟨g, 0, none⟩) n n) n xs :=
  ⟨by simpa using hl, .inr ⟨g, n, xs.toArray, rfl, hb, hg, Nat.le_refl _, by unfold maxLen; omega, by simpa using hl, by simp [← hl]⟩⟩

theorem map_get {zs : List Int} {j : Nat} (h : j < zs.length) : (zs.map (Value.int .u8))[j]? = some (.int .u8 (zs.getD j 0)) := by
  simp [List.getD, h]

/-- A row that is owned, read cell by cell. -/
theorem owns_cells {w : World} {base n cap : Nat} {a : Option Addr} {zs : List Int} (h : w.ownsRow base 5 1 (.slice a n cap) n (zs.map (Value.int .u8))) :
    zs.length = n ∧ ((a = none ∧ n = 0 ∧ cap = 0) ∨ ∃ g, a = some ⟨g, 0, none⟩ ∧ base ≤ g ∧ g < w.heap.size ∧ n ≤ cap ∧ ∀ j, j < n → w.cell? ⟨g, j, none⟩ = some (.int .u8 (zs.getD j 0))) := by
  have hl : zs.length = n := by simpa using h.1
  refine ⟨hl, ?_⟩
  rcases h.2 with ⟨hv, h0⟩ | ⟨g, cp, cur, hv, hb, hg, hnc, _⟩
  · simp only [Value.slice.injEq] at hv
    exact .inl ⟨hv.1, h0, hv.2.2⟩
  · simp only [Value.slice.injEq] at hv
    obtain ⟨rfl, _, rfl⟩ := hv
    refine .inr ⟨g, rfl, hb, (Array.getElem?_eq_some_iff.1 hg).1, hnc, fun j hj => ?_⟩
    have := h.cells (g := g) rfl j (.int .u8 (zs.getD j 0)) (map_get (by omega))
    rwa [Addr.add_lit, Nat.zero_add] at this

theorem src_of_owns {w : World} {base n cap : Nat} {a : Option Addr} {zs : List Int} (h : w.ownsRow base 5 1 (.slice a n cap) n (zs.map (Value.int .u8))) : Src w a n cap zs := by
  obtain ⟨hl, h | ⟨g, rfl, _, _, _, hc⟩⟩ := owns_cells h
  · exact ⟨hl, .inl h⟩
  · exact ⟨hl, .inr ⟨_, rfl, fun j hj => by rw [Addr.add_lit, Nat.zero_add]; exact hc j hj⟩⟩

theorem rd_of_owns {w : World} {base n cap : Nat} {a : Option Addr} {zs : List Int} (h : w.ownsRow base 5 1 (.slice a n cap) n (zs.map (Value.int .u8))) (hb : InByte zs) : Rd w a n zs := by
  obtain ⟨hl, ⟨_, h0, _⟩ | ⟨g, rfl, _, _, _, hc⟩⟩ := owns_cells h
  · exact ⟨hl, hb, .inl h0⟩
  · exact ⟨hl, hb, .inr ⟨g, 0, rfl, fun j hj => by rw [Nat.zero_add]; exact hc j hj⟩⟩

/-- THE CONTRACT: the clone owns the same bytes; nothing that was there has turned. -/
theorem clone_any (a : Option Addr) (n cap : Nat) (zs : List Int) (w : World) (hn : n ≤ 1073741824) (h : Src w a n cap zs) :
    Calls Trym.prog 10 #[.slice a n cap] w fun e w' => ∃ a' c', e = .returned (.slice a' n c') ∧ w'.ownsRow w.heap.size 5 1 (.slice a' n c') n (zs.map (Value.int .u8)) ∧ Below w.heap.size w w' := by
  obtain ⟨hl, ⟨rfl, rfl, rfl⟩ | ⟨x, rfl, hc⟩⟩ := h
  · obtain rfl : zs = [] := List.eq_nil_of_length_eq_zero hl
    exact (clone_nil w).mono fun e w' ⟨he, hw⟩ => ⟨none, 0, he, World.ownsRow_nil _ _ _ _, by rw [hw]; exact Below.refl _ _⟩
  · exact (clone_some x n cap zs w hn hl hc).mono fun e w' ⟨he, hg, hb⟩ => ⟨_, n, he, owns_of_block (Nat.le_refl _) hg (by simpa using hl) hn, hb⟩

/-- Out of what the row's step hands to a walk (a slice of bytes that came in). -/
theorem src_of_row {w : World} {a : Option Addr} {len cap : Nat} {zs : List Int}
    (h : (a = none ∧ len = 0 ∧ cap = 0 ∧ zs = []) ∨ ∃ x, a = some x ∧ len ≤ cap ∧ cap ≤ maxLen ∧ zs.length = cap ∧ (∀ i, i < zs.length → w.cell? (x.add i) = some (.int .u8 (zs.getD i 0))) ∧ ∀ n ∈ zs, (Lit.int .u8 n).wf = true) :
    Src w a len cap (zs.take len) ∧ InByte (zs.take len) ∧ len ≤ 9223372036854775807 := by
  rcases h with ⟨rfl, rfl, rfl, rfl⟩ | ⟨x, rfl, hle, hm, hz, hc, hwf⟩
  · exact ⟨⟨rfl, .inl ⟨rfl, rfl, rfl⟩⟩, fun j => by simp, by omega⟩
  · have hg : ∀ j, j < len → (zs.take len).getD j 0 = zs.getD j 0 := fun j hj => by simp [List.getD, hj]
    refine ⟨⟨by simp; omega, .inr ⟨x, rfl, fun j hj => by rw [hg j hj]; exact hc j (by omega)⟩⟩, fun j => ?_, by unfold maxLen at hm; omega⟩
    by_cases hj : j < len
    · rw [hg j hj]
      have hmem : zs.getD j 0 ∈ zs := by
        have : j < zs.length := by omega
        simp [List.getD, this]
      exact bounds_u8 (hwf _ hmem)
    · have : (zs.take len).getD j 0 = 0 := by rw [List.getD, List.getElem?_eq_none (by simp; omega)]; rfl
      rw [this]; omega

end Go.Proofs.Qxb6600726aMods.Clone
