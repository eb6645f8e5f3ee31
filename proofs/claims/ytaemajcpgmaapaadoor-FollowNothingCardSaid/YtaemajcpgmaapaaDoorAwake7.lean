/- blotterlaw03.Put; blotterlaw07.awake. -/
import Derived.Test.YtaemajcpgmaapaaDoorFolW
namespace Go.Proofs.YtaemajcpgmaapaaDoor
open Go.RowKit

theorem put_law (s : ByteArray) (va : Value) (w : World) (hva : ∃ A n c, va = .slice A n c) :
    Calls Tryd.prog 71 #[.string s, va] w fun e w' => e = .returned (.agg #[.int .i64 2, .int .i64 0, .string s, va]) ∧ Below w.heap.size w w' := by
  obtain ⟨A, n, c, rfl⟩ := hva
  go_enter Tryd.func71, Tryd.ntmps71
  go_wp2_with fail
  exact bodyPost_ret (v := .agg #[.int .i64 2, .int .i64 0, .string s, .slice A n c]) (by simp [results, Tryd.results71, go_sem]) rfl ⟨rfl, (Below.refl _ _).alloc (Nat.le_refl _) _⟩
/-- One operation without attributes, in a block of its own. -/
theorem rd_one {w : World} {B : Nat} {k n : Int} {t : ByteArray} {fr : Nat × Nat} (h : w.heap[B]? = some (.cells #[.int .i64 k, .int .i64 n, .string t, .slice none 0 0] 30 fr)) (ht : Fits t) :
    Rd KO (fun _ => True) w (.slice (some ⟨B, 0, none⟩) 1 1) [⟨k, n, t, []⟩] := by
  refine ⟨_, 1, rfl, ⟨by simp, by simp⟩, by simp [KO], fun j hj => ?_⟩
  obtain rfl : j = 0 := by simpa using hj
  refine ⟨B, 0, _, rfl, trivial, (Array.getElem?_eq_some_iff.1 h).1, ⟨.slice none 0 0, rfl, Rd.nil _ _ _ _ _ (by simp), ht⟩, fun i x hx => ?_⟩
  rw [cell_of_row w B _ _ _ _ h]
  match i, hx with
  | 0, hx => simpa using hx
  | 1, hx => simpa using hx
  | 2, hx => simpa using hx
  | 3, hx => simpa using hx
  | i + 4, hx => simp at hx
theorem aw1 : folR false ⟨3, [⟨2, 0, ⟨#[120]⟩, []⟩]⟩ ⟨3, [⟨2, 0, ⟨#[121]⟩, []⟩]⟩ = (⟨4, [⟨1, 1, ⟨#[]⟩, []⟩, ⟨2, 0, ⟨#[121]⟩, []⟩]⟩, 0) := by kernel_rfl
theorem aw2 : folR true ⟨3, [⟨2, 0, ⟨#[120]⟩, []⟩]⟩ ⟨3, [⟨2, 0, ⟨#[121]⟩, []⟩]⟩ = (⟨4, [⟨2, 0, ⟨#[121]⟩, []⟩]⟩, 0) := by kernel_rfl
theorem aw3 : folR true ⟨3, [⟨2, 0, ⟨#[120]⟩, []⟩]⟩ ⟨2, []⟩ = (⟨0, []⟩, 31) := by kernel_rfl

/-- What the examples hold: two changesets of one operation each. -/
structure AwF (w W : World) (oa ba ob bb : Nat) : Prop where
  below : Below w.heap.size w W
  a : W.heap[oa]? = some (.cells #[.int .i64 2, .int .i64 0, .string ⟨#[120]⟩, .slice none 0 0] 30 (0, 0))
  ca : W.heap[ba]? = some (.cells #[.int .i64 3, .slice (some ⟨oa, 0, none⟩) 1 1] 24 (0, 0))
  b : W.heap[ob]? = some (.cells #[.int .i64 2, .int .i64 0, .string ⟨#[121]⟩, .slice none 0 0] 30 (0, 0))
  cb : W.heap[bb]? = some (.cells #[.int .i64 3, .slice (some ⟨ob, 0, none⟩) 1 1] 24 (0, 0))
theorem AwF.next {w W W' : World} {oa ba ob bb : Nat} (h : AwF w W oa ba ob bb) (hb : Below W.heap.size W W') : AwF w W' oa ba ob bb :=
  ⟨h.below.trans (hb.mono h.below.size), (hb.block _ (Array.getElem?_eq_some_iff.1 h.a).1).trans h.a, (hb.block _ (Array.getElem?_eq_some_iff.1 h.ca).1).trans h.ca, (hb.block _ (Array.getElem?_eq_some_iff.1 h.b).1).trans h.b, (hb.block _ (Array.getElem?_eq_some_iff.1 h.cb).1).trans h.cb⟩

set_option maxRecDepth 100000 in
set_option maxHeartbeats 2000000 in
theorem awake7 (w : World) (hT : Tabs w) : Calls Tryd.prog 24 #[] w fun e w' => e = .returned (.bool true) ∧ Below w.heap.size w w' := by
  have cP := fun s W => put_law s (.slice none 0 0) W ⟨_, _, _, rfl⟩
  have A1 := Lib.hid aw1
  have A2 := Lib.hid aw2
  have A3 := Lib.hid aw3
  go_enter Tryd.func24, Tryd.ntmps24
  go_wp2_with fail
  with_reducible refine (cP _ _).mono ?_
  rintro e w1 ⟨rfl, hb1⟩
  go_wp2_with fail
  with_reducible refine (cP _ _).mono ?_
  rintro e w2 ⟨rfl, hb2⟩
  have g0 : w2.heap[w1.heap.size]? = some (.cells #[.int .i64 2, .int .i64 0, .string ⟨#[120]⟩, .slice none 0 0] 30 (0, 0)) := (hb2.block _ (by simp; omega)).trans ((Below.heap_alloc _ _ _ (by simp)).trans (heap_alloc_new w1 _))
  have g1 : w2.heap[w1.heap.size + 1]? = some (.cells #[.int .i64 3, .slice (some ⟨w1.heap.size, 0, none⟩) 1 1] 24 (0, 0)) :=
    (hb2.block _ (by simp)).trans (by simpa using heap_alloc_new (w1.alloc (.cells #[.int .i64 2, .int .i64 0, .string ⟨#[120]⟩, .slice none 0 0] 30)) (.cells #[.int .i64 3, .slice (some ⟨w1.heap.size, 0, none⟩) 1 1] 24))
  have hz2 : w1.heap.size + 2 ≤ w2.heap.size := by have := hb2.size; simp at this; omega
  have hbw : Below w.heap.size w w2 := by
    refine hb1.trans ((((Below.refl _ w1).alloc hb1.size _).alloc (by have := hb1.size; simp; omega) _).trans (hb2.mono (by have := hb1.size; simp; omega)))
  have F0 : AwF w ((w2.alloc (.cells #[.int .i64 2, .int .i64 0, .string ⟨#[121]⟩, .slice none 0 0] 30)).alloc (.cells #[.int .i64 3, .slice (some ⟨w2.heap.size, 0, none⟩) 1 1] 24)) w1.heap.size (w1.heap.size + 1) w2.heap.size (w2.heap.size + 1) :=
    ⟨(hbw.alloc hbw.size _).alloc (by have := hbw.size; simp; omega) _, (Below.heap_alloc _ _ _ (by simp; omega)).trans ((Below.heap_alloc _ _ _ (by omega)).trans g0), (Below.heap_alloc _ _ _ (by simp; omega)).trans ((Below.heap_alloc _ _ _ (by omega)).trans g1),
      (Below.heap_alloc _ _ _ (by simp)).trans (heap_alloc_new w2 _), by simpa using heap_alloc_new (w2.alloc (.cells #[.int .i64 2, .int .i64 0, .string ⟨#[121]⟩, .slice none 0 0] 30)) (.cells #[.int .i64 3, .slice (some ⟨w2.heap.size, 0, none⟩) 1 1] 24)⟩
  have q0 : w2.cell? ⟨w1.heap.size + 1, 0, none⟩ = some (.int .i64 3) := cell_of_row _ _ 0 _ _ _ g1
  have q1 : w2.cell? ⟨w1.heap.size + 1, 1, none⟩ = some (.slice (some ⟨w1.heap.size, 0, none⟩) 1 1) := cell_of_row _ _ 1 _ _ _ g1
  have ne1 : w1.heap.size + 1 ≠ w2.heap.size := by omega
  have ne2 : w1.heap.size ≠ w2.heap.size := by omega
  have HF0 := Lib.hid F0
  have f0 : ∀ o o', ((w2.alloc o).alloc o').cell? ⟨w1.heap.size + 1, 0, none⟩ = some (.int .i64 3) := fun o o' => (World.cell?_of_block (Below.heap_alloc _ o' _ (by show w1.heap.size + 1 < _; simp; omega))).trans ((World.cell?_of_block (Below.heap_alloc w2 o _ (by show w1.heap.size + 1 < _; omega))).trans q0)
  have f1 : ∀ o o', ((w2.alloc o).alloc o').cell? ⟨w1.heap.size + 1, 1, none⟩ = some (.slice (some ⟨w1.heap.size, 0, none⟩) 1 1) := fun o o' => (World.cell?_of_block (Below.heap_alloc _ o' _ (by show w1.heap.size + 1 < _; simp; omega))).trans ((World.cell?_of_block (Below.heap_alloc w2 o _ (by show w1.heap.size + 1 < _; omega))).trans q1)
  have cA := fun (first : Bool) (W : World) (F : AwF w W w1.heap.size (w1.heap.size + 1) w2.heap.size (w2.heap.size + 1)) => follow_any 3 3 (.slice (some ⟨w1.heap.size, 0, none⟩) 1 1) (.slice (some ⟨w2.heap.size, 0, none⟩) 1 1) [⟨2, 0, ⟨#[120]⟩, []⟩] [⟨2, 0, ⟨#[121]⟩, []⟩] _ _ first W (rd_one F.a (show (1 : Nat) ≤ _ by omega)) (rd_one F.b (show (1 : Nat) ≤ _ by omega)) (hT.below F.below)
  have cB := fun (W : World) (F : AwF w W w1.heap.size (w1.heap.size + 1) w2.heap.size (w2.heap.size + 1)) => follow_any 3 2 (.slice (some ⟨w1.heap.size, 0, none⟩) 1 1) (.slice none 0 0) [⟨2, 0, ⟨#[120]⟩, []⟩] [] _ (fun _ => True) true W (rd_one F.a (show (1 : Nat) ≤ _ by omega)) (Rd.nil _ _ _ _ _ (by simp)) (hT.below F.below)
  rw [A3.out] at cB
  have cA1 := cA false
  have cA2 := cA true
  rw [A1.out] at cA1
  rw [A2.out] at cA2
  have HC1 := Lib.hid (cA1 _ F0)
  clear hb1 hb2 g0 g1 hz2 hbw F0 cP A1 A2 A3 cA cA1
  go_wp2_with fail
  with_reducible refine HC1.out.mono ?_
  rintro e w3 ⟨v3, rfl, hb3, hr3⟩
  have F3 := HF0.out.next hb3
  clear HC1 HF0
  obtain ⟨A3, c3, rfl, hA3, hs3⟩ := hr3.rd
  obtain ⟨b3, o3, va3, rfl, _, hb3w, _, _, hy3, _, _, _⟩ := hs3.op 1 (by simp)
  simp only [List.length_cons, List.length_nil, Nat.zero_add, Nat.reduceAdd, List.getElem_cons_succ, List.getElem_cons_zero, Nat.one_mul] at hy3 hr3
  dsimp only
  have hcc := heap_alloc_new w3 (.cells #[.int .i64 4, .slice (some ⟨b3, o3, none⟩) 2 c3] 24)
  have hbc : Below w3.heap.size w3 (w3.alloc (.cells #[.int .i64 4, .slice (some ⟨b3, o3, none⟩) 2 c3] 24)) := (Below.refl _ _).alloc (Nat.le_refl _) _
  have F4 := F3.next hbc
  have f2 : ∀ o, (w3.alloc o).cell? ⟨w1.heap.size + 1, 0, none⟩ = some (.int .i64 3) := fun o => (World.cell?_of_block (Below.heap_alloc w3 o _ (Array.getElem?_eq_some_iff.1 F3.ca).1)).trans (cell_of_row _ _ 0 _ _ _ F3.ca)
  have f3 : ∀ o, (w3.alloc o).cell? ⟨w1.heap.size + 1, 1, none⟩ = some (.slice (some ⟨w1.heap.size, 0, none⟩) 1 1) := fun o => (World.cell?_of_block (Below.heap_alloc w3 o _ (Array.getElem?_eq_some_iff.1 F3.ca).1)).trans (cell_of_row _ _ 1 _ _ _ F3.ca)
  have f4 : ∀ o, (w3.alloc o).cell? ⟨w2.heap.size + 1, 0, none⟩ = some (.int .i64 3) := fun o => (World.cell?_of_block (Below.heap_alloc w3 o _ (Array.getElem?_eq_some_iff.1 F3.cb).1)).trans (cell_of_row _ _ 0 _ _ _ F3.cb)
  have f5 : ∀ o, (w3.alloc o).cell? ⟨w2.heap.size + 1, 1, none⟩ = some (.slice (some ⟨w2.heap.size, 0, none⟩) 1 1) := fun o => (World.cell?_of_block (Below.heap_alloc w3 o _ (Array.getElem?_eq_some_iff.1 F3.cb).1)).trans (cell_of_row _ _ 1 _ _ _ F3.cb)
  have HC2 := Lib.hid (cA2 _ F4)
  have HF4 := Lib.hid F4
  have HCC := Lib.hid hcc
  clear cA2 F3 F4 f0 f1 q0 q1 hcc hA3 hs3
  go_wp2_with fail
  with_reducible refine HC2.out.mono ?_
  rintro e w5 ⟨v5, rfl, hb5, hr5⟩
  have F5 := HF4.out.next hb5
  have hcc5 := (hb5.block _ (by simp)).trans HCC.out
  have hy5 := ((hbc.trans (hb5.mono hbc.size)).cell (p := ⟨b3, o3 + 4 + 2, none⟩) hb3w).trans hy3
  obtain ⟨A5, c5, rfl, hA5, hs5⟩ := hr5.rd
  simp only at hs5
  dsimp only
  have hdd := heap_alloc_new w5 (.cells #[.int .i64 4, .slice A5 1 c5] 24)
  have hbd : Below w5.heap.size w5 (w5.alloc (.cells #[.int .i64 4, .slice A5 1 c5] 24)) := (Below.refl _ _).alloc (Nat.le_refl _) _
  have F6 := F5.next hbd
  have f6 : ∀ o, (w5.alloc o).cell? ⟨w1.heap.size + 1, 0, none⟩ = some (.int .i64 3) := fun o => (World.cell?_of_block (Below.heap_alloc w5 o _ (Array.getElem?_eq_some_iff.1 F5.ca).1)).trans (cell_of_row _ _ 0 _ _ _ F5.ca)
  have f7 : ∀ o, (w5.alloc o).cell? ⟨w1.heap.size + 1, 1, none⟩ = some (.slice (some ⟨w1.heap.size, 0, none⟩) 1 1) := fun o => (World.cell?_of_block (Below.heap_alloc w5 o _ (Array.getElem?_eq_some_iff.1 F5.ca).1)).trans (cell_of_row _ _ 1 _ _ _ F5.ca)
  have HC3 := Lib.hid (cB _ F6)
  have HF6 := Lib.hid F6
  have HDD := Lib.hid hdd
  have HCC5 := Lib.hid hcc5
  have HY5 := Lib.hid hy5
  have hz35 : w3.heap.size < w5.heap.size := (Array.getElem?_eq_some_iff.1 hcc5).1
  have hzb5 : b3 < w5.heap.size := World.block_lt_of_cell? _ _ hy5
  clear F5 F6 f2 f3 f4 f5 hdd hcc5 hy5 hy3 HC2 HF4 HCC hA5 hs5 cB
  go_wp2_with fail
  with_reducible refine HC3.out.mono ?_
  rintro e w7 ⟨v7, rfl, hb7, hr7⟩
  obtain ⟨A7, c7, rfl, hA7, hs7⟩ := hr7.rd
  simp only at hs7
  dsimp only
  have hB57 : Below w5.heap.size w5 w7 := hbd.trans (hb7.mono hbd.size)
  have hc7 := (hB57.block _ hz35).trans HCC5.out
  have hd7 := (hb7.block _ (by simp)).trans HDD.out
  have hy7 := (hB57.cell (p := ⟨b3, o3 + 4 + 2, none⟩) hzb5).trans HY5.out
  have s1 := (Array.getElem?_eq_some_iff.1 hc7).1
  have s2 := (Array.getElem?_eq_some_iff.1 hd7).1
  have s3 : b3 < w7.heap.size := World.block_lt_of_cell? _ _ hy7
  have j0 : ∀ o, (w7.alloc o).cell? ⟨w3.heap.size, 0, none⟩ = some (.int .i64 4) := fun o => (World.cell?_of_block (Below.heap_alloc w7 o _ s1)).trans (cell_of_row _ _ 0 _ _ _ hc7)
  have j1 : ∀ o, (w7.alloc o).cell? ⟨w3.heap.size, 1, none⟩ = some (.slice (some ⟨b3, o3, none⟩) 2 c3) := fun o => (World.cell?_of_block (Below.heap_alloc w7 o _ s1)).trans (cell_of_row _ _ 1 _ _ _ hc7)
  have j2 : ∀ o, (w7.alloc o).cell? ⟨w5.heap.size, 1, none⟩ = some (.slice A5 1 c5) := fun o => (World.cell?_of_block (Below.heap_alloc w7 o _ s2)).trans (cell_of_row _ _ 1 _ _ _ hd7)
  have j3 : ∀ o, (w7.alloc o).cell? ⟨b3, o3 + 4 + 2, none⟩ = some (.string ⟨#[121]⟩) := fun o => (World.cell?_of_block (Below.heap_alloc w7 o _ s3)).trans hy7
  have hbf : Below w.heap.size w w7 := HF6.out.below.trans (hb7.mono HF6.out.below.size)
  have HBF := Lib.hid hbf
  clear hc7 hd7 hy7 s1 s2 s3 hB57 hb7 hr7 hs7 hA7 HC3 HF6 HDD HCC5 HY5 f6 f7 hbf
  go_wp2_with fail
  go_ret
  exact ⟨rfl, HBF.out.alloc HBF.out.size _⟩
end Go.Proofs.YtaemajcpgmaapaaDoor
