/-
  THE WALK OF 'appendJSONString' (function 23) AND OF ITS DOOR (11), onto nil or onto a row that the call itself owns.
-/
import Derived.Test.Qxb6600726aModsClone
import Derived.Test.Qxb6600726aModsJson
import Derived.Deep.RegionHeld3
import Derived.Deep.AppendLies
namespace Go.Proofs.Qxb6600726aMods.App
open Go.ChangeShapes Go.WideShapes Go.ChangeAt Go.RowKit
open Go.Proofs.Qxb6600726aMods.Clone Go.Proofs.Qxb6600726aMods.Json
set_option linter.unusedVariables false

/-- Since w0, in which the value v0 was owned: only v0's own row has been written; the slice now lies there or in a new block. -/
def Since (w0 : World) (v0 : Option Nat) (w : World) (g : Nat) : Prop := w0.grownBy w v0 ∧ (v0 = some g ∨ w0.heap.size ≤ g)

theorem Since.next {w0 w w' : World} {v0 : Option Nat} {g g' H : Nat} {o : Obj} {v : Value} (h : Since w0 v0 w g) (hv : v.ownBlock = some g) (hg : (w.alloc o).grownBy w' v.ownBlock) (hat : v.ownBlock = some g' ∨ g' = H) (hH : w.heap.size ≤ H) : Since w0 v0 w' g' := by
  obtain ⟨h1, h2⟩ := h
  have hs := h1.size
  have hsa := hg.size
  simp at hsa
  refine ⟨⟨hg.os.trans h1.os, hg.tape.trans h1.tape, hg.output.trans h1.output, by omega, fun k hk hne => ?_⟩, ?_⟩
  · rw [hg.block k (by simp; omega) (by
      rw [hv]; intro e
      rcases h2 with h2 | h2
      · exact hne (by rw [e, h2])
      · simp only [Option.some.injEq] at e; omega)]
    rw [Below.heap_alloc _ _ _ (by omega)]
    exact h1.block k hk hne
  · rcases hat with hat | rfl
    · rw [hv] at hat
      simp only [Option.some.injEq] at hat
      subst hat
      exact h2
    · exact .inr (by omega)

theorem hex_at (i : Int) (h0 : (0:Int) ≤ i) (h : i < 16) (w : World) : (Instr.index 9 (Value.string { data := #[48, 49, 50, 51, 52, 53, 54, 55, 56, 57, 97, 98, 99, 100, 101, 102] }) (.int .u8 i)).run Trym.prog w = .ok (.int .u8 (hexd i)) w := by
  go_simp
  obtain ⟨n, rfl⟩ := Int.eq_ofNat_of_zero_le h0
  match n, h with
  | 0, _ => rfl
  | 1, _ => rfl
  | 2, _ => rfl
  | 3, _ => rfl
  | 4, _ => rfl
  | 5, _ => rfl
  | 6, _ => rfl
  | 7, _ => rfl
  | 8, _ => rfl
  | 9, _ => rfl
  | 10, _ => rfl
  | 11, _ => rfl
  | 12, _ => rfl
  | 13, _ => rfl
  | 14, _ => rfl
  | 15, _ => rfl
  | (n + 16), h => omega
theorem and15 (c : Int) (h0 : 0 ≤ c) (h : c < 32) : bits .and .u8 c 15 = c % 16 := by
  obtain ⟨n, rfl⟩ := Int.eq_ofNat_of_zero_le h0
  have key : ∀ n : Fin 32, bits .and .u8 ((n.val : Nat) : Int) 15 = ((n.val : Nat) : Int) % 16 := by decide +kernel
  exact key ⟨n, by omega⟩

theorem lnext {zs L : List Int} {s : ByteArray} {k : Nat} (h : k < s.size) (hL : L = zs ++ [34] ++ enc ((sb s).take k)) {news : List Int} (he : enc1 ((s[k]'h).toNat : Int) = news) : Hid (L ++ news = zs ++ [34] ++ enc ((sb s).take (k + 1))) := by
  show _ = _
  rw [enc_step s k _ h rfl, he, hL]
  simp only [List.append_assoc]

section
variable {c : Int}
theorem e34 (h : (c == 34) = true) : enc1 c = [92, c] := by have := beq_iff_eq.1 h; simp [enc1, this]
theorem e92 (h : (c == 92) = true) : enc1 c = [92, c] := by have := beq_iff_eq.1 h; simp [enc1, this]
theorem e8 (h : (c == 8) = true) : enc1 c = [92, 98] := by have := beq_iff_eq.1 h; simp [enc1, this]
theorem e12 (h : (c == 12) = true) : enc1 c = [92, 102] := by have := beq_iff_eq.1 h; simp [enc1, this]
theorem e10 (h : (c == 10) = true) : enc1 c = [92, 110] := by have := beq_iff_eq.1 h; simp [enc1, this]
theorem e13 (h : (c == 13) = true) : enc1 c = [92, 114] := by have := beq_iff_eq.1 h; simp [enc1, this]
theorem e9 (h : (c == 9) = true) : enc1 c = [92, 116] := by have := beq_iff_eq.1 h; simp [enc1, this]
theorem eraw (h1 : (c == 34) = false) (h2 : (c == 92) = false) (h : 32 ≤ c) : enc1 c = [c] := by
  have a := beq_eq_false_iff_ne.1 h1
  have b := beq_eq_false_iff_ne.1 h2
  unfold enc1
  rw [if_neg (by omega), if_neg (by omega), if_neg (by omega), if_neg (by omega), if_neg (by omega), if_neg (by omega), if_neg (by omega)]
theorem ehex (h1 : (c == 34) = false) (h2 : (c == 92) = false) (h3 : (c == 8) = false) (h4 : (c == 12) = false) (h5 : (c == 10) = false) (h6 : (c == 13) = false) (h7 : (c == 9) = false) (h : c < 32) {x1 x2 : Int} (hx1 : x1 = hexd (c / 16)) (hx2 : x2 = hexd (c % 16)) : enc1 c = [92, 117, 48, 48, x1, x2] := by
  have := beq_eq_false_iff_ne.1 h1
  have := beq_eq_false_iff_ne.1 h2
  have := beq_eq_false_iff_ne.1 h3
  have := beq_eq_false_iff_ne.1 h4
  have := beq_eq_false_iff_ne.1 h5
  have := beq_eq_false_iff_ne.1 h6
  have := beq_eq_false_iff_ne.1 h7
  unfold enc1
  rw [if_neg (by omega), if_neg (by omega), if_neg (by omega), if_neg (by omega), if_neg (by omega), if_neg (by omega), if_pos h, hx1, hx2]
end

set_option maxHeartbeats 1600000 in
theorem append_any (B n : Nat) (v : Value) (zs : List Int) (s : ByteArray) (w : World) (hown : w.ownsRow B 5 1 v n (zs.map (Value.int .u8))) (hB : B ≤ w.heap.size) (hn : n ≤ 16777216) (hs : s.size ≤ 16777216) :
    Calls Trym.prog 23 #[v, .string s] w fun e w' => ∃ g cap, e = .returned (.slice (some ⟨g, 0, none⟩) (out zs (sb s)).length cap) ∧
      w'.ownsRow B 5 1 (.slice (some ⟨g, 0, none⟩) (out zs (sb s)).length cap) (out zs (sb s)).length ((out zs (sb s)).map (Value.int .u8)) ∧ Since w v.ownBlock w' g := by
  obtain ⟨i0, hi, hz0, hz1, hz2⟩ := info_parts info5
  have HI : Hid (Trym.prog.info? 5 = some i0) := hi
  have HZ : Hid (i0.zero = some (.int .u8 0)) := hz0
  have H1 : Hid (i0.size = 1) := hz1
  have H2 : Hid (i0.bytes = 1) := hz2
  clear hi hz1 hz2 hz0
  have hl : zs.length = n := by simpa using hown.1
  go_enter Trym.func23, Trym.ntmps23
  go_wp2_with (at_builtin; refine wpList_append_lies _ rfl (.tmp 7) (.tmp 8) 22 rfl B 5 i0 (.int .u8 0) 1 1 Trym.underlying22 HI.out HZ.out H1.out H2.out rfl (by omega) v n (zs.map (Value.int .u8)) rfl (hown.alloc _) ⟨w.heap.size, 0, none⟩ 1 1 [.int .u8 34] rfl rfl (cell_one_new _ _ _) (by simp [Value.oneCell']) (by omega) (by unfold maxLen; omega) (by omega) (by simp; omega) (w.heap.size + 1) (by simp) ?_; intro g1 cap1 w1 hown1 hg1 hat1 hlt1)
  have hsi1 : Since w v.ownBlock w1 g1 := by
    refine ⟨⟨hg1.os, hg1.tape, hg1.output, by have := hg1.size; simp at this; omega, fun k hk hne => (hg1.block k (by simp; omega) hne).trans (Below.heap_alloc _ _ _ hk)⟩, ?_⟩
    rcases hat1 with h | rfl
    · exact .inl h
    · exact .inr (by omega)
  have hB1 : B ≤ w1.heap.size := by have := hg1.size; simp at this; omega
  have HO : Hid (w1.ownsRow B 5 1 (.slice (some ⟨g1, 0, none⟩) (n + 1) cap1) (n + 1) ((zs ++ [34] ++ enc ((sb s).take 0)).map (Value.int .u8))) := by
    show World.ownsRow _ _ _ _ _ _ _
    simpa [enc] using hown1
  clear hg1 hat1 hown1 hown
  go_loopw [0, 5] (fun x i wr => ∃ (k g cap N : Nat) (L : List Int), k ≤ s.size ∧ i = .int .i64 k ∧ x = .slice (some ⟨g, 0, none⟩) N cap ∧ N ≤ n + 1 + 6 * k ∧ Hid (L = zs ++ [34] ++ enc ((sb s).take k)) ∧
      wr.ownsRow B 5 1 (.slice (some ⟨g, 0, none⟩) N cap) N (L.map (Value.int .u8)) ∧ Since w v.ownBlock wr g ∧ B ≤ wr.heap.size) (fun _ i _ => s.size - (intOf i).toNat)
  case atStart => exact ⟨0, g1, cap1, n + 1, _, Nat.zero_le _, rfl, rfl, by omega, rfl, HO.out, hsi1, hB1⟩
  case round =>
    obtain ⟨k, g, cap, N, L, hk, rfl, rfl, hN, HL, hownr, hsi, hBr⟩ := hrel
    by_cases hlt : k < s.size
    · go_wp2_with (first
        | (at_builtin; refine wpList_append_lies _ rfl (.tmp 38) (.tmp 40) 22 rfl B 5 i0 (.int .u8 0) 1 1 Trym.underlying22 HI.out HZ.out H1.out H2.out rfl (by omega) _ N (L.map (Value.int .u8)) rfl (hownr.alloc _) ⟨wr.heap.size, 0, none⟩ 2 2 [.int .u8 92, .int .u8 (s[k].toNat : Int)] rfl rfl (World.news_of_block (cs := #[.int .u8 92, .int .u8 (s[k].toNat : Int)]) (heap_alloc_new wr _)) (by simp [Value.oneCell']) (by omega) (by unfold maxLen; omega) (by omega) (by simp; omega) (wr.heap.size + 1) (by simp) ?_; intro g2 cap2 w2 hown2 hg2 hat2 hlt2)
        | (at_builtin; refine wpList_append_lies _ rfl (.tmp 44) (.tmp 45) 22 rfl B 5 i0 (.int .u8 0) 1 1 Trym.underlying22 HI.out HZ.out H1.out H2.out rfl (by omega) _ N (L.map (Value.int .u8)) rfl (hownr.alloc _) ⟨wr.heap.size, 0, none⟩ 2 2 [.int .u8 92, .int .u8 98] rfl rfl (World.news_of_block (cs := #[.int .u8 92, .int .u8 98]) (heap_alloc_new wr _)) (by simp [Value.oneCell']) (by omega) (by unfold maxLen; omega) (by omega) (by simp; omega) (wr.heap.size + 1) (by simp) ?_; intro g2 cap2 w2 hown2 hg2 hat2 hlt2)
        | (at_builtin; refine wpList_append_lies _ rfl (.tmp 49) (.tmp 50) 22 rfl B 5 i0 (.int .u8 0) 1 1 Trym.underlying22 HI.out HZ.out H1.out H2.out rfl (by omega) _ N (L.map (Value.int .u8)) rfl (hownr.alloc _) ⟨wr.heap.size, 0, none⟩ 2 2 [.int .u8 92, .int .u8 102] rfl rfl (World.news_of_block (cs := #[.int .u8 92, .int .u8 102]) (heap_alloc_new wr _)) (by simp [Value.oneCell']) (by omega) (by unfold maxLen; omega) (by omega) (by simp; omega) (wr.heap.size + 1) (by simp) ?_; intro g2 cap2 w2 hown2 hg2 hat2 hlt2)
        | (at_builtin; refine wpList_append_lies _ rfl (.tmp 54) (.tmp 55) 22 rfl B 5 i0 (.int .u8 0) 1 1 Trym.underlying22 HI.out HZ.out H1.out H2.out rfl (by omega) _ N (L.map (Value.int .u8)) rfl (hownr.alloc _) ⟨wr.heap.size, 0, none⟩ 2 2 [.int .u8 92, .int .u8 110] rfl rfl (World.news_of_block (cs := #[.int .u8 92, .int .u8 110]) (heap_alloc_new wr _)) (by simp [Value.oneCell']) (by omega) (by unfold maxLen; omega) (by omega) (by simp; omega) (wr.heap.size + 1) (by simp) ?_; intro g2 cap2 w2 hown2 hg2 hat2 hlt2)
        | (at_builtin; refine wpList_append_lies _ rfl (.tmp 59) (.tmp 60) 22 rfl B 5 i0 (.int .u8 0) 1 1 Trym.underlying22 HI.out HZ.out H1.out H2.out rfl (by omega) _ N (L.map (Value.int .u8)) rfl (hownr.alloc _) ⟨wr.heap.size, 0, none⟩ 2 2 [.int .u8 92, .int .u8 114] rfl rfl (World.news_of_block (cs := #[.int .u8 92, .int .u8 114]) (heap_alloc_new wr _)) (by simp [Value.oneCell']) (by omega) (by unfold maxLen; omega) (by omega) (by simp; omega) (wr.heap.size + 1) (by simp) ?_; intro g2 cap2 w2 hown2 hg2 hat2 hlt2)
        | (at_builtin; refine wpList_append_lies _ rfl (.tmp 64) (.tmp 65) 22 rfl B 5 i0 (.int .u8 0) 1 1 Trym.underlying22 HI.out HZ.out H1.out H2.out rfl (by omega) _ N (L.map (Value.int .u8)) rfl (hownr.alloc _) ⟨wr.heap.size, 0, none⟩ 2 2 [.int .u8 92, .int .u8 116] rfl rfl (World.news_of_block (cs := #[.int .u8 92, .int .u8 116]) (heap_alloc_new wr _)) (by simp [Value.oneCell']) (by omega) (by unfold maxLen; omega) (by omega) (by simp; omega) (wr.heap.size + 1) (by simp) ?_; intro g2 cap2 w2 hown2 hg2 hat2 hlt2)
        | (at_builtin; refine wpList_append_lies _ rfl (.tmp 31) (.tmp 33) 22 rfl B 5 i0 (.int .u8 0) 1 1 Trym.underlying22 HI.out HZ.out H1.out H2.out rfl (by omega) _ N (L.map (Value.int .u8)) rfl (hownr.alloc _) ⟨wr.heap.size, 0, none⟩ 1 1 [.int .u8 (s[k].toNat : Int)] rfl rfl (World.news_of_block (cs := #[.int .u8 (s[k].toNat : Int)]) (heap_alloc_new wr _)) (by simp [Value.oneCell']) (by omega) (by unfold maxLen; omega) (by omega) (by simp; omega) (wr.heap.size + 1) (by simp) ?_; intro g2 cap2 w2 hown2 hg2 hat2 hlt2))
      · go_roundw
        case rel => exact ⟨k + 1, g2, cap2, N + 2, L ++ [92, (s[k].toNat : Int)], by omega, by go_num, rfl, by omega, lnext hlt HL.out (e34 (by assumption)), by simpa using hown2, hsi.next rfl hg2 hat2 (by omega), by have := hg2.size; simp at this; omega⟩
        case measure => simp [intOf]; omega
      · go_roundw
        case rel => exact ⟨k + 1, g2, cap2, N + 2, L ++ [92, (s[k].toNat : Int)], by omega, by go_num, rfl, by omega, lnext hlt HL.out (e92 (by assumption)), by simpa using hown2, hsi.next rfl hg2 hat2 (by omega), by have := hg2.size; simp at this; omega⟩
        case measure => simp [intOf]; omega
      · go_roundw
        case rel => exact ⟨k + 1, g2, cap2, N + 2, L ++ [92, 98], by omega, by go_num, rfl, by omega, lnext hlt HL.out (e8 (by assumption)), by simpa using hown2, hsi.next rfl hg2 hat2 (by omega), by have := hg2.size; simp at this; omega⟩
        case measure => simp [intOf]; omega
      · go_roundw
        case rel => exact ⟨k + 1, g2, cap2, N + 2, L ++ [92, 102], by omega, by go_num, rfl, by omega, lnext hlt HL.out (e12 (by assumption)), by simpa using hown2, hsi.next rfl hg2 hat2 (by omega), by have := hg2.size; simp at this; omega⟩
        case measure => simp [intOf]; omega
      · go_roundw
        case rel => exact ⟨k + 1, g2, cap2, N + 2, L ++ [92, 110], by omega, by go_num, rfl, by omega, lnext hlt HL.out (e10 (by assumption)), by simpa using hown2, hsi.next rfl hg2 hat2 (by omega), by have := hg2.size; simp at this; omega⟩
        case measure => simp [intOf]; omega
      · go_roundw
        case rel => exact ⟨k + 1, g2, cap2, N + 2, L ++ [92, 114], by omega, by go_num, rfl, by omega, lnext hlt HL.out (e13 (by assumption)), by simpa using hown2, hsi.next rfl hg2 hat2 (by omega), by have := hg2.size; simp at this; omega⟩
        case measure => simp [intOf]; omega
      · go_roundw
        case rel => exact ⟨k + 1, g2, cap2, N + 2, L ++ [92, 116], by omega, by go_num, rfl, by omega, lnext hlt HL.out (e9 (by assumption)), by simpa using hown2, hsi.next rfl hg2 hat2 (by omega), by have := hg2.size; simp at this; omega⟩
        case measure => simp [intOf]; omega
      · have hc0 : (0 : Int) ≤ (s[k].toNat : Int) := Int.natCast_nonneg _
        have hc1 : (s[k].toNat : Int) < 32 := by assumption
        obtain ⟨x1, hx1⟩ : ∃ x1, x1 = hexd ((s[k].toNat : Int) / 16) := ⟨_, rfl⟩
        obtain ⟨x2, hx2⟩ : ∃ x2, x2 = hexd ((s[k].toNat : Int) % 16) := ⟨_, rfl⟩
        have hr1 := fun wx => hex_at ((s[k].toNat : Int) / 16) (by omega) (by omega) wx
        have hr2 := fun wx => hex_at ((s[k].toNat : Int) % 16) (by omega) (by omega) wx
        have hand := and15 _ hc0 hc1
        rw [← hx1] at hr1
        rw [← hx2] at hr2
        have HE : Hid (enc1 (s[k].toNat : Int) = [92, 117, 48, 48, x1, x2]) := ehex (by assumption) (by assumption) (by assumption) (by assumption) (by assumption) (by assumption) (by assumption) hc1 hx1 hx2
        clear hx1 hx2
        go_region_held3 (fun w' => True) (trivial) ((refine step_append_lies _ (by rfl) _ _ _ (by rfl) B 5 i0 _ 1 1 Trym.underlying22 HI.out HZ.out H1.out H2.out rfl (by omega) _ N (L.map (Value.int .u8)) (by rfl) ((hownr.alloc _).drew) ⟨wr.heap.size, 0, none⟩ 6 6 [.int .u8 92, .int .u8 117, .int .u8 48, .int .u8 48, .int .u8 x1, .int .u8 x2] (by rfl) (by rfl) (World.news_of_block (cs := #[.int .u8 92, .int .u8 117, .int .u8 48, .int .u8 48, .int .u8 x1, .int .u8 x2]) (t := 5) (fr := (0, 0)) (heap_alloc_new wr _)) (by simp [Value.oneCell']) (by omega) (by unfold maxLen; omega) (by omega) (by simp; omega) (wr.heap.size + 1) (by simp) ?_; intro g2 cap2 w2 hown2 hg2 hat2 hlt2))
        all_goals
          go_wp2
          go_roundw
          case rel => exact ⟨k + 1, g2, cap2, N + 6, L ++ [92, 117, 48, 48, x1, x2], by omega, by go_num, rfl, by omega, lnext hlt HL.out (HE.out), by simpa using hown2, hsi.next rfl (o := .cells #[.int .u8 92, .int .u8 117, .int .u8 48, .int .u8 48, .int .u8 x1, .int .u8 x2] 5) ⟨hg2.os, hg2.tape, hg2.output, hg2.size, hg2.block⟩ hat2 (by omega), by have := hg2.size; simp at this; omega⟩
          case measure => simp [intOf]; omega
      · go_roundw
        case rel => exact ⟨k + 1, g2, cap2, N + 1, L ++ [(s[k].toNat : Int)], by omega, by go_num, rfl, by omega, lnext hlt HL.out (eraw (by assumption) (by assumption) (by assumption)), by simpa using hown2, hsi.next rfl hg2 hat2 (by omega), by have := hg2.size; simp at this; omega⟩
        case measure => simp [intOf]; omega
    · go_wp2_with (at_builtin; refine wpList_append_lies _ rfl (.tmp 67) (.tmp 68) 22 rfl B 5 i0 (.int .u8 0) 1 1 Trym.underlying22 HI.out HZ.out H1.out H2.out rfl (by omega) _ N (L.map (Value.int .u8)) rfl (hownr.alloc _) ⟨wr.heap.size, 0, none⟩ 1 1 [.int .u8 34] rfl rfl (World.news_of_block (cs := #[.int .u8 34]) (heap_alloc_new wr _)) (by simp [Value.oneCell']) (by omega) (by unfold maxLen; omega) (by omega) (by simp; omega) (wr.heap.size + 1) (by simp) ?_; intro g2 cap2 w2 hown2 hg2 hat2 hlt2)
      go_ret
      have hf : L ++ [34] = out zs (sb s) := by
        rw [HL.out, List.take_of_length_le (by rw [length_sb]; omega)]; rfl
      have hfl : (out zs (sb s)).length = N + 1 := by
        have := hownr.1
        rw [← hf]
        simp at this ⊢
        exact this
      rw [hfl]
      refine ⟨g2, cap2, rfl, ?_, hsi.next rfl hg2 hat2 (by omega)⟩
      rw [← hf]
      simpa using hown2

/-- THE DOOR 'ZZappendJSONString' (11). -/
theorem door_any (B n : Nat) (v : Value) (zs : List Int) (s : ByteArray) (w : World) (hown : w.ownsRow B 5 1 v n (zs.map (Value.int .u8))) (hB : B ≤ w.heap.size) (hn : n ≤ 16777216) (hs : s.size ≤ 16777216) :
    Calls Trym.prog 11 #[v, .string s] w fun e w' => ∃ g cap, e = .returned (.slice (some ⟨g, 0, none⟩) (out zs (sb s)).length cap) ∧
      w'.ownsRow B 5 1 (.slice (some ⟨g, 0, none⟩) (out zs (sb s)).length cap) (out zs (sb s)).length ((out zs (sb s)).map (Value.int .u8)) ∧ Since w v.ownBlock w' g := by
  go_enter Trym.func11, Trym.ntmps11
  go_wp2_with fail
  refine (append_any B n v zs s _ hown hB hn hs).mono ?_
  rintro e w1 ⟨g, cap, rfl, h1, h2⟩
  go_wp2
  go_ret
  exact ⟨g, cap, rfl, h1, h2⟩
end Go.Proofs.Qxb6600726aMods.App
