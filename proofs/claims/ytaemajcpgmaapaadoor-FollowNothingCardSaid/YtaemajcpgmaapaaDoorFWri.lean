/- follow: the writer's methods but put. -/
import Derived.Test.YtaemajcpgmaapaaDoorFPut
import Derived.Test.YtaemajcpgmaapaaDoorFolL
import Derived.Test.YtaemajcpgmaapaaDoorStepC
namespace Go.Proofs.YtaemajcpgmaapaaDoor
open Go.RowKit

/-- What a method of the writer leaves. -/
def WPost (lo wb : Nat) (v : Value) (s : List Op × Int) (long : Int) (w w' : World) : Prop :=
  ∃ v', w'.heap[wb]? = some (.cells #[v', .int .i64 s.2, .int .i64 long] 77 (0, 0)) ∧ OwnO lo w' v' s.1 ∧ Chg (fun k => k = wb ∨ v.ownBlock = some k) w w' ∧ (v'.ownBlock = v.ownBlock ∨ ∃ k, v'.ownBlock = some k ∧ w.heap.size ≤ k)
theorem OwnO.offW {lo wb : Nat} {w w' : World} {v : Value} {l : List Op} {cs : Array Value} (h : OwnO lo w v l) (hmb : w.heap[wb]? = some (.cells cs 77 (0, 0))) (hc : Chg (fun k => k = wb) w w') : OwnO lo w' v l :=
  h.off hmb (by decide) (by decide) hc
theorem WPost.trans {lo wb : Nat} {v : Value} {s' : List Op × Int} {long' : Int} {w w1 w2 : World} {v1 : Value} (hc : Chg (fun k => k = wb ∨ v.ownBlock = some k) w w1) (hv : v1.ownBlock = v.ownBlock ∨ ∃ k, v1.ownBlock = some k ∧ w.heap.size ≤ k) (h : WPost lo wb v1 s' long' w1 w2) : WPost lo wb v s' long' w w2 := by
  obtain ⟨v2, h1, h2, h3, h4⟩ := h
  refine ⟨v2, h1, h2, hc.trans h3 fun k hk e => ?_, ?_⟩
  · rcases e with e | e
    · exact .inl e
    · rcases hv with hv | ⟨j, hv, hj⟩
      · exact .inr (by rw [← hv]; exact e)
      · rw [hv] at e; injection e with e; omega
  · rcases h4 with h4 | ⟨j, h4, hj⟩
    · rcases hv with hv | ⟨j, hv, hj⟩
      · exact .inl (h4.trans hv)
      · exact .inr ⟨j, h4.trans hv, hj⟩
    · exact .inr ⟨j, h4, by have := hc.size; omega⟩

set_option maxRecDepth 100000 in
set_option maxHeartbeats 1000000 in
theorem fFlush (wb lo : Nat) (v : Value) (l : List Op) (gone long : Int) (w : World)
    (hmb : w.heap[wb]? = some (.cells #[v, .int .i64 gone, .int .i64 long] 77 (0, 0))) (hlo : lo ≤ wb) (hown : OwnO lo w v l) (hlen : (l.length + 1) * 56 ≤ 140737488355328) :
    Calls Tryd.prog 137 #[.pointer (some ⟨wb, 0, none⟩)] w fun e w' => e = .returned (.tuple #[]) ∧ WPost lo wb v (flushL (l, gone)) long w w' := by
  have hsz := hown.fits
  have c1 : w.cell? ⟨wb, 1, none⟩ = some (.int .i64 gone) := by rw [cell_of_row w wb 1 _ 77 (0, 0) hmb]; rfl
  by_cases hg : 0 < gone
  · have hd : decide (0 < gone) = true := by simp [hg]
    have HF : Hid (flushL (l, gone) = (putL l ⟨3, gone, ⟨#[]⟩, []⟩, 0)) := by unfold Hid flushL; rw [if_pos hg]
    have hput := fPut wb #[v, .int .i64 gone, .int .i64 long] 77 v l lo 3 gone ⟨#[]⟩ (.slice none 0 0) [] (fun _ => True) w hmb rfl hlo (by decide) (by decide) hown (Rd.nil _ _ _ _ _ (by simp)) (by show (0 : Nat) ≤ _; omega) (fun x hx => by show x.text.size + 0 ≤ _; have := hsz x hx; unfold Fits at this; omega) hlen
    go_enter Tryd.func137, Tryd.ntmps137
    go_wp2_with fail
    with_reducible refine hput.mono ?_
    rintro e w1 ⟨rfl, v', hmb1, ho1, hc1, hv1⟩
    have k1 : w1.cell? ⟨wb, 1, none⟩ = some (.int .i64 gone) := cell_of_row _ wb 1 _ 77 (0, 0) hmb1
    have k2 : w1.frozen? ⟨wb, 1, none⟩ = false := by simp [World.frozen?, hmb1]
    go_wp2_with fail
    refine bodyPost_end (results_none rfl _ _ _) rfl ⟨rfl, ?_⟩
    rw [HF.out]
    have hs : Chg (fun k => k = wb) w1 (w1.setCell ⟨wb, 1, none⟩ (.int .i64 0)) := (Chg.refl _ _).setCell _ fun _ => rfl
    exact ⟨v', heap_setCell_same w1 wb 1 _ _ _ hmb1, ho1.offW hmb1 hs, hc1.trans hs fun k _ e => .inl e, hv1⟩
  · have hd : decide (0 < gone) = false := by simp [hg]
    have HF : Hid (flushL (l, gone) = (l, gone)) := by unfold Hid flushL; rw [if_neg hg]
    go_enter Tryd.func137, Tryd.ntmps137
    go_wp2_with fail
    refine bodyPost_end (results_none rfl _ _ _) rfl ⟨rfl, v, ?_⟩
    rw [HF.out]
    exact ⟨hmb, hown, Chg.refl _ _, .inl rfl⟩

set_option maxRecDepth 100000 in
set_option maxHeartbeats 1000000 in
theorem fKeep (wb lo : Nat) (v : Value) (l : List Op) (gone long : Int) (kind n : Int) (text : ByteArray) (va : Value) (la : List Attr) (S : Nat → Prop) (w : World)
    (hmb : w.heap[wb]? = some (.cells #[v, .int .i64 gone, .int .i64 long] 77 (0, 0))) (hlo : lo ≤ wb) (hown : OwnO lo w v l) (hva : Rd KA S w va la) (hS : ∀ k, S k → k ≠ wb ∧ v.ownBlock ≠ some k) (hft : Fits text)
    (hsz : ∀ x ∈ l, x.text.size + text.size ≤ 140737488355328) (hlen : (l.length + 2) * 56 ≤ 140737488355328) :
    Calls Tryd.prog 76 #[.pointer (some ⟨wb, 0, none⟩), .agg #[.int .i64 kind, .int .i64 n, .string text, va]] w fun e w' => e = .returned (.tuple #[]) ∧ WPost lo wb v (putL (flushL (l, gone)).1 ⟨kind, n, text, la⟩, (flushL (l, gone)).2) long w w' := by
  have hwb : wb < w.heap.size := (Array.getElem?_eq_some_iff.1 hmb).1
  obtain ⟨A2, c2, rfl, hA2, hr2⟩ := hva
  have hb0 : Below w.heap.size w (w.alloc (.cells #[.int .i64 kind, .int .i64 n, .string text, .slice A2 la.length c2] 30)) := (Below.refl _ _).alloc (Nat.le_refl _) _
  have hfl := fFlush wb lo v l gone long _ ((hb0.block wb hwb).trans hmb) hlo (hown.below hb0) (by omega)
  have hfb := flushL_bd (s := (l, gone)) (M := 140737488355328 - text.size) (fun x hx => by have := hsz x hx; omega)
  have hownlt := hown.lt
  generalize flushL (l, gone) = fs at *
  obtain ⟨fl, fg⟩ := fs
  have hbxc := heap_alloc_new w (.cells #[.int .i64 kind, .int .i64 n, .string text, .slice A2 la.length c2] 30)
  go_enter Tryd.func76, Tryd.ntmps76
  go_wp2_with fail
  with_reducible refine hfl.mono ?_
  rintro e w3 ⟨rfl, v3, hm3, ho3, hc3, hv3⟩
  dsimp only at hm3 ho3
  have hbx3 : w3.heap[w.heap.size]? = some (.cells #[.int .i64 kind, .int .i64 n, .string text, .slice A2 la.length c2] 30 (0, 0)) :=
    (hc3.block w.heap.size (by simp) (fun e => e.elim (fun e => by omega) (fun e => by have := (hownlt _ e).2; omega))).trans hbxc
  have j0 : w3.cell? ⟨w.heap.size, 0, none⟩ = some (.int .i64 kind) := cell_of_row w3 _ 0 _ _ _ hbx3
  have j1 : w3.cell? ⟨w.heap.size, 1, none⟩ = some (.int .i64 n) := cell_of_row w3 _ 1 _ _ _ hbx3
  have j2 : w3.cell? ⟨w.heap.size, 2, none⟩ = some (.string text) := cell_of_row w3 _ 2 _ _ _ hbx3
  have j3 : w3.cell? ⟨w.heap.size, 3, none⟩ = some (.slice A2 la.length c2) := cell_of_row w3 _ 3 _ _ _ hbx3
  have hcw : Chg (fun k => k = wb ∨ v.ownBlock = some k) w w3 := (Chg.of_below hb0 _).trans hc3 fun _ _ h => h
  have hv4 : v3.ownBlock = v.ownBlock ∨ ∃ k, v3.ownBlock = some k ∧ w.heap.size ≤ k := hv3.imp id fun ⟨k, h1, h2⟩ => ⟨k, h1, by simp at h2; omega⟩
  have hput := fPut wb #[v3, .int .i64 fg, .int .i64 long] 77 v3 fl lo kind n text (.slice A2 la.length c2) la S w3 hm3 rfl hlo (by decide) (by decide) ho3 (Rd.chg ⟨A2, c2, rfl, hA2, hr2⟩ hcw fun k hk e => e.elim (hS k hk).1 (hS k hk).2) hft (fun x hx => by have := hfb.2 x hx; unfold Fits at hft; omega) (by have := hfb.1; omega)
  have H1 := Lib.hid hput
  have H2 := Lib.hid hcw
  have H3 := Lib.hid hv4
  clear hput hcw hv4 hfl hfb hm3 ho3 hc3 hv3 hownlt
  go_wp2_with fail
  with_reducible refine H1.out.mono ?_
  rintro e w4 ⟨rfl, v5, hm5, ho5, hc5, hv5⟩
  go_wp2_with fail
  refine bodyPost_end (results_none rfl _ _ _) rfl ⟨rfl, ?_⟩
  exact WPost.trans H2.out H3.out ⟨v5, hm5, ho5, hc5, hv5⟩

set_option maxRecDepth 100000 in
set_option maxHeartbeats 1000000 in
theorem fInsert (wb lo : Nat) (v : Value) (l : List Op) (gone long : Int) (kind n : Int) (text : ByteArray) (va : Value) (la : List Attr) (S : Nat → Prop) (w : World)
    (hmb : w.heap[wb]? = some (.cells #[v, .int .i64 gone, .int .i64 long] 77 (0, 0))) (hlo : lo ≤ wb) (hown : OwnO lo w v l) (hva : Rd KA S w va la) (hS : ∀ k, S k → k ≠ wb ∧ v.ownBlock ≠ some k) (hft : Fits text)
    (hsz : ∀ x ∈ l, x.text.size + text.size ≤ 140737488355328) (hlen : (l.length + 2) * 56 ≤ 140737488355328) :
    Calls Tryd.prog 74 #[.pointer (some ⟨wb, 0, none⟩), .agg #[.int .i64 kind, .int .i64 n, .string text, va]] w fun e w' => e = .returned (.tuple #[]) ∧ WPost lo wb v (putL l ⟨kind, n, text, la⟩, gone) (wrap64 (long + Lib.runeCount text)) w w' := by
  have hwb : wb < w.heap.size := (Array.getElem?_eq_some_iff.1 hmb).1
  obtain ⟨A2, c2, rfl, hA2, hr2⟩ := hva
  have hb0 : Below w.heap.size w (w.alloc (.cells #[.int .i64 kind, .int .i64 n, .string text, .slice A2 la.length c2] 30)) := (Below.refl _ _).alloc (Nat.le_refl _) _
  have hl2 : text.size < 9223372036854775807 := by unfold Fits at hft; omega
  have c1 := fun W => Tryd.utf8_RuneCountInString text W hl2
  have hcnt : Lib.runeCount text ≤ 140737488355328 := Nat.le_trans (Lib.runeCount_le text) hft
  have k2 : w.cell? ⟨wb, 2, none⟩ = some (.int .i64 long) := by rw [cell_of_row w wb 2 _ 77 (0, 0) hmb]; rfl
  have k3 : w.frozen? ⟨wb, 2, none⟩ = false := by simp [World.frozen?, hmb]
  have ne1 : wb ≠ w.heap.size := by omega
  generalize Lib.runeCount text = rc at *
  have hs0 : Chg (fun k => k = wb) w (w.setCell ⟨wb, 2, none⟩ (.int .i64 (wrap64 (long + rc)))) := (Chg.refl _ _).setCell _ fun _ => rfl
  have hs1 : ∀ pos, Chg (fun k => k = wb) w (((w.setCell ⟨wb, 2, none⟩ (.int .i64 (wrap64 (long + rc)))).alloc (.cells #[.int .i64 kind, .int .i64 n, .string text, .slice A2 la.length c2] 30)).alloc (.stringIter text pos)).drew := fun pos => ((hs0.alloc _).alloc _).drew
  have hs2 : ∀ pos, (((w.setCell ⟨wb, 2, none⟩ (.int .i64 (wrap64 (long + rc)))).alloc (.cells #[.int .i64 kind, .int .i64 n, .string text, .slice A2 la.length c2] 30)).alloc (.stringIter text pos)).drew.heap[wb]? = some (.cells #[v, .int .i64 gone, .int .i64 (wrap64 (long + rc))] 77 (0, 0)) := fun pos =>
    (Below.heap_alloc _ _ _ (by simp [World.setCell]; omega)).trans ((Below.heap_alloc _ _ _ (by simp [World.setCell]; omega)).trans (heap_setCell_same w wb 2 _ _ _ hmb))
  have hput := fun pos => fPut wb #[v, .int .i64 gone, .int .i64 (wrap64 (long + rc))] 77 v l lo kind n text (.slice A2 la.length c2) la S _ (hs2 pos) rfl hlo (by decide) (by decide) (hown.offW hmb (hs1 pos)) (Rd.chg ⟨A2, c2, rfl, hA2, hr2⟩ (hs1 pos) fun k hk e => (hS k hk).1 e) hft hsz (by omega)
  have HP := Lib.hid hput
  have HC := Lib.hid hs1
  clear hput hs0 hs1 hs2
  go_enter Tryd.func74, Tryd.ntmps74
  go_wp2_with fail
  go_region_law ((
    refine step_call_law (by rfl) 77 (.tmp 9) 9 (by rfl) (.string text) (by simp [Act.eval]) (fun w => callFunc_enter Tryd.func77 (by kernel_rfl) rfl _ w) (c1 _) (fun e w' h => ⟨_, h.1⟩) ?_
    rintro v1 w1 ⟨hv1, pos, rfl⟩
    injection hv1 with hv1
    subst hv1
    unfold World.iter))
  all_goals
    go_wp2_with fail
    with_reducible refine (HP.out _).mono ?_
    rintro e w4 ⟨rfl, v5, hm5, ho5, hc5, hv5⟩
    go_wp2_with fail
    refine bodyPost_end (results_none rfl _ _ _) rfl ⟨rfl, ?_⟩
    exact WPost.trans ((HC.out _).mono fun k _ e => .inl e) (.inl rfl) ⟨v5, hm5, ho5, hc5, hv5⟩

set_option maxHeartbeats 1000000 in
theorem fSkip (wb : Nat) (u : Value) (w : World) (hu : ∃ k n t va, u = .agg #[.int .i64 k, .int .i64 n, .string t, va]) :
    Calls Tryd.prog 80 #[.pointer (some ⟨wb, 0, none⟩), u] w fun e w' => e = .returned (.tuple #[]) ∧ Below w.heap.size w w' := by
  obtain ⟨k, n, t, va, rfl⟩ := hu
  go_enter Tryd.func80, Tryd.ntmps80
  go_wp2_with fail
  refine bodyPost_end (results_none rfl _ _ _) rfl ⟨rfl, ?_⟩
  exact (Below.refl _ _).alloc (Nat.le_refl _) _

set_option maxRecDepth 100000 in
set_option maxHeartbeats 1000000 in
theorem fRemove (wb lo : Nat) (v : Value) (l : List Op) (gone long : Int) (kind n : Int) (text : ByteArray) (va : Value) (w : World)
    (hmb : w.heap[wb]? = some (.cells #[v, .int .i64 gone, .int .i64 long] 77 (0, 0))) (hown : OwnO lo w v l) :
    Calls Tryd.prog 81 #[.pointer (some ⟨wb, 0, none⟩), .agg #[.int .i64 kind, .int .i64 n, .string text, va]] w fun e w' => e = .returned (.tuple #[]) ∧ WPost lo wb v (l, wrap64 (gone + n)) (wrap64 (long - n)) w w' := by
  have hwb : wb < w.heap.size := (Array.getElem?_eq_some_iff.1 hmb).1
  have k1 : w.cell? ⟨wb, 1, none⟩ = some (.int .i64 gone) := by rw [cell_of_row w wb 1 _ 77 (0, 0) hmb]; rfl
  have k2 : w.cell? ⟨wb, 2, none⟩ = some (.int .i64 long) := by rw [cell_of_row w wb 2 _ 77 (0, 0) hmb]; rfl
  have k3 : ∀ j, w.frozen? ⟨wb, j, none⟩ = false := fun j => by simp [World.frozen?, hmb]
  have ne1 : wb ≠ w.heap.size := by omega
  go_enter Tryd.func81, Tryd.ntmps81
  go_wp2_with fail
  go_region
  go_wp2_with fail
  go_region
  go_wp2_with fail
  refine bodyPost_end (results_none rfl _ _ _) rfl ⟨rfl, v, ?_⟩
  have hs0 : Chg (fun k => k = wb) w (((w.setCell ⟨wb, 2, none⟩ (.int .i64 (wrap64 (long - n)))).setCell ⟨wb, 1, none⟩ (.int .i64 (wrap64 (gone + n)))).alloc (.cells #[.int .i64 kind, .int .i64 n, .string text, va] 30)).drew.drew :=
    (((((Chg.refl (fun k => k = wb) w).setCell (p := ⟨wb, 2, none⟩) _ fun _ => rfl).setCell (p := ⟨wb, 1, none⟩) _ fun _ => rfl).alloc _).drew).drew
  refine ⟨?_, hown.offW hmb hs0, hs0.mono fun k _ e => .inl e, .inl rfl⟩
  exact (Below.heap_alloc _ _ _ (by simp [World.setCell]; omega)).trans (heap_setCell_same _ wb 1 _ _ _ (heap_setCell_same w wb 2 _ _ _ hmb))

/-- The writer's answer. -/
def doneR (f : Int) (s : List Op × Int) (long : Int) : Change × Int :=
  if 20000 < long then (⟨0, []⟩, 3) else if 2000 < (trimL (flushL s).1).length then (⟨0, []⟩, 2) else (⟨f, trimL (flushL s).1⟩, 0)

/-- What stands behind the trim. -/
structure DonePre (lo wb : Nat) (v : Value) (w W : World) (A : Option Addr) (n c : Nat) (L : List Op) (fg long : Int) : Prop where
  hm : W.heap[wb]? = some (.cells #[.slice A n c, .int .i64 fg, .int .i64 long] 77 (0, 0))
  row : RowO lo W (.slice A n c) L
  res : W.heap[w.heap.size]? = some (.cells #[.int .i64 0, .slice none 0 0] 24 (0, 0))
  chg : Chg (fun k => k = wb ∨ v.ownBlock = some k) w W
theorem RowO.offC {lo B : Nat} {w w' : World} {v : Value} {l : List Op} {cs : Array Value} (h : RowO lo w v l) (hb : w.heap[B]? = some (.cells cs 24 (0, 0))) (hc : Chg (fun k => k = B) w w') : RowO lo w' v l :=
  h.off hb (by decide) (by decide) hc
/-- The end of done. -/
def DoneQ (lo wb : Nat) (v : Value) (w : World) (R : Change × Int) (e : Ending) (w' : World) : Prop :=
  ∃ v', e = .returned (.tuple #[.agg #[.int .i64 R.1.from_, v'], .int .i64 R.2]) ∧ RowO lo w' v' R.1.ops ∧ Chg (fun k => k = wb ∨ v.ownBlock = some k) w w'
theorem done_end {lo wb : Nat} {v : Value} {w W : World} {A : Option Addr} {n c : Nat} {L : List Op} {fg long : Int} (D : DonePre lo wb v w W A n c L fg long) (a : Act) (R : Change × Int) (u : Value)
    (hr : RowO lo W u R.1.ops) (h5 : a.tmps[5]?.getD undef = .int .i64 R.2) (h4 : a.tmps[4]?.getD undef = .pointer (some ⟨w.heap.size, 0, none⟩)) (hd : a.defers = []) :
    bodyPost Tryd.prog Tryd.f83 (DoneQ lo wb v w R) .ret a ((W.setCell ⟨w.heap.size, 0, none⟩ (.int .i64 R.1.from_)).setCell ⟨w.heap.size, 1, none⟩ u) := by
  have k5 : W.cell? ⟨w.heap.size, 0, none⟩ = some (.int .i64 0) := cell_of_row _ _ 0 _ _ _ D.res
  have k6 : W.cell? ⟨w.heap.size, 1, none⟩ = some (.slice none 0 0) := cell_of_row _ _ 1 _ _ _ D.res
  have r0 : ((W.setCell ⟨w.heap.size, 0, none⟩ (.int .i64 R.1.from_)).setCell ⟨w.heap.size, 1, none⟩ u).cell? ⟨w.heap.size, 0, none⟩ = some (.int .i64 R.1.from_) := (World.cell?_setCell_other _ _ _ _ (by simp)).trans (World.cell?_setCell_same _ _ _ k5)
  have r1 : ((W.setCell ⟨w.heap.size, 0, none⟩ (.int .i64 R.1.from_)).setCell ⟨w.heap.size, 1, none⟩ u).cell? ⟨w.heap.size, 1, none⟩ = some u := World.cell?_setCell_same _ _ _ ((World.cell?_setCell_other _ _ _ _ (by simp)).trans k6)
  have hc : Chg (fun k => k = w.heap.size) W ((W.setCell ⟨w.heap.size, 0, none⟩ (.int .i64 R.1.from_)).setCell ⟨w.heap.size, 1, none⟩ u) :=
    ((Chg.refl (fun k => k = w.heap.size) W).setCell (p := ⟨w.heap.size, 0, none⟩) _ fun _ => rfl).setCell (p := ⟨w.heap.size, 1, none⟩) _ fun _ => rfl
  refine bodyPost_ret (v := .tuple #[.agg #[.int .i64 R.1.from_, u], .int .i64 R.2]) ?_ hd ⟨u, rfl, hr.offC D.res hc, D.chg.trans hc fun k hk e => absurd hk (by omega)⟩
  simp [results, Tryd.results83, go_sem, r0, r1, h5, h4]

set_option maxRecDepth 100000 in
set_option maxHeartbeats 2000000 in
theorem fDone (wb lo : Nat) (v : Value) (l : List Op) (gone long f : Int) (w : World)
    (hmb : w.heap[wb]? = some (.cells #[v, .int .i64 gone, .int .i64 long] 77 (0, 0))) (hlo : lo ≤ wb) (hown : OwnO lo w v l) (hlen : (l.length + 1) * 56 ≤ 140737488355328) :
    Calls Tryd.prog 83 #[.pointer (some ⟨wb, 0, none⟩), .int .i64 f] w (DoneQ lo wb v w (doneR f (l, gone) long)) := by
  have hwb : wb < w.heap.size := (Array.getElem?_eq_some_iff.1 hmb).1
  have hb0 : Below w.heap.size w (w.alloc (.cells #[.int .i64 0, .slice none 0 0] 24)) := (Below.refl _ _).alloc (Nat.le_refl _) _
  have hfl := fFlush wb lo v l gone long _ ((hb0.block wb hwb).trans hmb) hlo (hown.below hb0) hlen
  have hownlt := hown.lt
  have HD : Hid (doneR f (l, gone) long = if 20000 < long then (⟨0, []⟩, 3) else if 2000 < (trimL (flushL (l, gone)).1).length then (⟨0, []⟩, 2) else (⟨f, trimL (flushL (l, gone)).1⟩, 0)) := rfl
  have hfb := (flushL_bd (s := (l, gone)) (M := 140737488355328) (fun x hx => hown.fits x hx)).1
  generalize doneR f (l, gone) long = R at *
  generalize flushL (l, gone) = fs at *
  obtain ⟨fl, fg⟩ := fs
  dsimp only at HD hfb
  have hres := heap_alloc_new w (.cells #[.int .i64 0, .slice none 0 0] 24)
  go_enter Tryd.func83, Tryd.ntmps83
  go_wp2_with fail
  with_reducible refine hfl.mono ?_
  rintro e w3 ⟨rfl, v3, hm3, ho3, hc3, hv3⟩
  dsimp only at hm3 ho3
  have hres3 : w3.heap[w.heap.size]? = some (.cells #[.int .i64 0, .slice none 0 0] 24 (0, 0)) :=
    (hc3.block w.heap.size (by simp) (fun e => e.elim (fun e => by omega) (fun e => by have := (hownlt _ e).2; omega))).trans hres
  have hcw : Chg (fun k => k = wb ∨ v.ownBlock = some k) w w3 := (Chg.of_below hb0 _).trans hc3 fun _ _ h => h
  clear hc3 hv3 hfl hres hb0 hownlt
  have p0 : w3.cell? ⟨wb, 0, none⟩ = some v3 := cell_of_row _ wb 0 _ _ _ hm3
  have p2 : w3.cell? ⟨wb, 2, none⟩ = some (.int .i64 long) := cell_of_row _ wb 2 _ _ _ hm3
  have pf := frozen_of_row w3 wb 0 _ _ hm3
  obtain ⟨A3, c3, rfl, hA3, hr3⟩ := ho3.rd
  have HD := HD.out
  rcases List.eq_nil_or_concat fl with rfl | ⟨l0, x, rfl⟩
  · have hT : trimL ([] : List Op) = [] := rfl
    rw [hT] at HD
    clear hr3 hT
    simp only [List.length_nil] at *
    have D : DonePre lo wb v w (w3) (A3) (0) c3 ([]) fg long := ⟨hm3, ho3.row, hres3, hcw⟩
    have r0 : (w3).cell? ⟨w.heap.size, 0, none⟩ = some (.int .i64 0) := cell_of_row _ _ 0 _ _ _ D.res
    have r1 : (w3).cell? ⟨w.heap.size, 1, none⟩ = some (.slice none 0 0) := cell_of_row _ _ 1 _ _ _ D.res
    have rf0 := frozen_of_row (w3) w.heap.size 0 _ _ D.res
    have rf1 := frozen_of_row (w3) w.heap.size 1 _ _ D.res
    obtain ⟨hn, hcA, hcn, hcm, hrow2⟩ := D.row.clip
    clear hn
    by_cases hL : 20000 < long
    · have hd : decide (20000 < long) = true := by simp [hL]
      obtain rfl : R = (⟨0, []⟩, 3) := by rw [HD, if_pos hL]
      clear HD hL
      go_wp2_with fail
      exact done_end D _ _ _ (RowO.nil _ _) rfl rfl rfl
    · have hd : decide (20000 < long) = false := by simp; omega
      obtain rfl : R = (⟨f, []⟩, 0) := by rw [HD, if_neg hL, if_neg (by simp)]
      clear HD hL
      have hclip := clip_any (A3) (0) c3 hcA hcn hcm
      go_wp2_with (go_at_call 95; (with_reducible refine (hclip _).mono ?_); rintro e w5 ⟨rfl, rfl⟩)
      exact done_end D _ _ _ hrow2 rfl rfl rfl
  · rw [List.concat_eq_append] at *
    have e1 : (l0 ++ [x]).length = l0.length + 1 := by simp
    rw [e1] at ho3 hA3 hm3 p0
    obtain ⟨g0, rfl⟩ : ∃ g0, A3 = some ⟨g0, 0, none⟩ := by
      obtain ⟨ps, hps, h1, _, _⟩ := ho3
      rcases h1.2 with ⟨h', _⟩ | ⟨g', cap', cur, h', _⟩
      · simp at h'
      · simp at h'
        exact ⟨g', by rw [h'.1]⟩
    obtain ⟨vx, hox, hfx, hx0, hx1, hx2, hx3, hxf⟩ := ho3.last
    obtain ⟨A4, c4, rfl, hA4, hr4⟩ := hox.rd
    have hwr2 : IntKind.i64.wrap ((l0.length : Int) + 1 - 1) = l0.length := by rw [show ((l0.length : Int) + 1 - 1) = (l0.length : Int) by omega, IntKind.wrap_i64]; omega
    have hlt2 : (l0.length : Int) < (l0.length : Int) + 1 := by omega
    have hlt3 : (0 : Int) ≤ (l0.length : Int) := by omega
    have hq1 : decide ((0 : Int) < (l0.length : Int) + 1) = true := decide_eq_true (by omega)
    have hgl : (l0 ++ [x]).getLast? = some x := by simp
    clear hr3 e1
    by_cases hk1 : x.kind = 1
    · have hkb : (x.kind == 1) = true := by simp [hk1]
      by_cases hat : x.attrs = []
      · have hab : ((x.attrs.length : Int) == 0) = true := by simp [hat]
        have hT : trimL (l0 ++ [x]) = l0 := by unfold trimL; rw [hgl]; simp [hk1, hat]
        rw [hT] at HD
        have HK := Lib.hid hk1
        have HA := Lib.hid hat
        have hcl := ho3.row.clip.2.2.1
        have hcm0 := ho3.row.clip.2.2.2.1
        have hcl2 : (l0.length : Int) ≤ (c3 : Int) := by omega
        clear hk1 hat hT hgl
        have hcC : Chg (fun k => k = wb) w3 (w3.setCell ⟨wb, 0, none⟩ (.slice (some ⟨g0, 0, none⟩) l0.length c3)) := (Chg.refl _ _).setCell _ fun _ => rfl
        have hrow : RowO lo (w3.setCell ⟨wb, 0, none⟩ (.slice (some ⟨g0, 0, none⟩) l0.length c3)) (.slice (some ⟨g0, 0, none⟩) l0.length c3) l0 := (ho3.row.cut c3 (by omega) (Nat.le_refl _)).off hm3 (by decide) (by decide) hcC
        have hm4 : (w3.setCell ⟨wb, 0, none⟩ (.slice (some ⟨g0, 0, none⟩) l0.length c3)).heap[wb]? = some (.cells #[.slice (some ⟨g0, 0, none⟩) l0.length c3, .int .i64 fg, .int .i64 long] 77 (0, 0)) := heap_setCell_same w3 wb 0 _ _ _ hm3
        have hres4 := (hcC.block w.heap.size (Array.getElem?_eq_some_iff.1 hres3).1 (by omega)).trans hres3
        have hcw4 := hcw.trans hcC fun k _ e => .inl e
        have p02 : (w3.setCell ⟨wb, 0, none⟩ (.slice (some ⟨g0, 0, none⟩) l0.length c3)).cell? ⟨wb, 2, none⟩ = some (.int .i64 long) := cell_of_row _ wb 2 _ _ _ hm4
        have p00 : (w3.setCell ⟨wb, 0, none⟩ (.slice (some ⟨g0, 0, none⟩) l0.length c3)).cell? ⟨wb, 0, none⟩ = some (.slice (some ⟨g0, 0, none⟩) l0.length c3) := cell_of_row _ wb 0 _ _ _ hm4
        have D : DonePre lo wb v w (w3.setCell ⟨wb, 0, none⟩ (.slice (some ⟨g0, 0, none⟩) l0.length c3)) (some ⟨g0, 0, none⟩) (l0.length) c3 (l0) fg long := ⟨hm4, hrow, hres4, hcw4⟩
        have r0 : (w3.setCell ⟨wb, 0, none⟩ (.slice (some ⟨g0, 0, none⟩) l0.length c3)).cell? ⟨w.heap.size, 0, none⟩ = some (.int .i64 0) := cell_of_row _ _ 0 _ _ _ D.res
        have r1 : (w3.setCell ⟨wb, 0, none⟩ (.slice (some ⟨g0, 0, none⟩) l0.length c3)).cell? ⟨w.heap.size, 1, none⟩ = some (.slice none 0 0) := cell_of_row _ _ 1 _ _ _ D.res
        have rf0 := frozen_of_row (w3.setCell ⟨wb, 0, none⟩ (.slice (some ⟨g0, 0, none⟩) l0.length c3)) w.heap.size 0 _ _ D.res
        have rf1 := frozen_of_row (w3.setCell ⟨wb, 0, none⟩ (.slice (some ⟨g0, 0, none⟩) l0.length c3)) w.heap.size 1 _ _ D.res
        obtain ⟨hn, hcA, hcn, hcm, hrow2⟩ := D.row.clip
        clear hn
        by_cases hL : 20000 < long
        · have hd : decide (20000 < long) = true := by simp [hL]
          obtain rfl : R = (⟨0, []⟩, 3) := by rw [HD, if_pos hL]
          clear HD hL
          go_wp2_with fail
          exact done_end D _ _ _ (RowO.nil _ _) rfl rfl rfl
        · have hd : decide (20000 < long) = false := by simp; omega
          by_cases h2 : 2000 < l0.length
          · have hd2 : decide ((2000 : Int) < (l0.length : Int)) = true := by simp; omega
            obtain rfl : R = (⟨0, []⟩, 2) := by rw [HD, if_neg hL, if_pos (by simpa using h2)]
            clear HD hL h2
            go_wp2_with fail
            exact done_end D _ _ _ (RowO.nil _ _) rfl rfl rfl
          · have hd2 : decide ((2000 : Int) < (l0.length : Int)) = false := by simp; omega
            obtain rfl : R = (⟨f, l0⟩, 0) := by rw [HD, if_neg hL, if_neg (by simpa using h2)]
            clear HD hL h2
            have hclip := clip_any (some ⟨g0, 0, none⟩) (l0.length) c3 hcA hcn hcm
            go_wp2_with (go_at_call 95; (with_reducible refine (hclip _).mono ?_); rintro e w5 ⟨rfl, rfl⟩)
            exact done_end D _ _ _ hrow2 rfl rfl rfl
      · have hab : ((x.attrs.length : Int) == 0) = false := by simp; exact hat
        have hT : trimL (l0 ++ [x]) = l0 ++ [x] := by unfold trimL; rw [hgl]; simp [hat]
        rw [hT] at HD
        have HK := Lib.hid hk1
        have HA := Lib.hid hat
        clear hk1 hat hT hgl
        have D : DonePre lo wb v w (w3) (some ⟨g0, 0, none⟩) (l0.length + 1) c3 (l0 ++ [x]) fg long := ⟨hm3, ho3.row, hres3, hcw⟩
        have r0 : (w3).cell? ⟨w.heap.size, 0, none⟩ = some (.int .i64 0) := cell_of_row _ _ 0 _ _ _ D.res
        have r1 : (w3).cell? ⟨w.heap.size, 1, none⟩ = some (.slice none 0 0) := cell_of_row _ _ 1 _ _ _ D.res
        have rf0 := frozen_of_row (w3) w.heap.size 0 _ _ D.res
        have rf1 := frozen_of_row (w3) w.heap.size 1 _ _ D.res
        obtain ⟨hn, hcA, hcn, hcm, hrow2⟩ := D.row.clip
        clear hn
        by_cases hL : 20000 < long
        · have hd : decide (20000 < long) = true := by simp [hL]
          obtain rfl : R = (⟨0, []⟩, 3) := by rw [HD, if_pos hL]
          clear HD hL
          go_wp2_with fail
          exact done_end D _ _ _ (RowO.nil _ _) rfl rfl rfl
        · have hd : decide (20000 < long) = false := by simp; omega
          by_cases h2 : 2000 < l0.length + 1
          · have hd2 : decide ((2000 : Int) < (l0.length : Int) + 1) = true := by simp; omega
            obtain rfl : R = (⟨0, []⟩, 2) := by rw [HD, if_neg hL, if_pos (by simpa using h2)]
            clear HD hL h2
            go_wp2_with fail
            exact done_end D _ _ _ (RowO.nil _ _) rfl rfl rfl
          · have hd2 : decide ((2000 : Int) < (l0.length : Int) + 1) = false := by simp; omega
            obtain rfl : R = (⟨f, l0 ++ [x]⟩, 0) := by rw [HD, if_neg hL, if_neg (by simpa using h2)]
            clear HD hL h2
            have hclip := clip_any (some ⟨g0, 0, none⟩) (l0.length + 1) c3 hcA hcn hcm
            go_wp2_with (go_at_call 95; (with_reducible refine (hclip _).mono ?_); rintro e w5 ⟨rfl, rfl⟩)
            exact done_end D _ _ _ hrow2 rfl rfl rfl
    · have hkb : (x.kind == 1) = false := by simp [hk1]
      have hT : trimL (l0 ++ [x]) = l0 ++ [x] := by unfold trimL; rw [hgl]; simp [hk1]
      rw [hT] at HD
      have HK := Lib.hid hk1
      clear hk1 hT hgl
      have D : DonePre lo wb v w (w3) (some ⟨g0, 0, none⟩) (l0.length + 1) c3 (l0 ++ [x]) fg long := ⟨hm3, ho3.row, hres3, hcw⟩
      have r0 : (w3).cell? ⟨w.heap.size, 0, none⟩ = some (.int .i64 0) := cell_of_row _ _ 0 _ _ _ D.res
      have r1 : (w3).cell? ⟨w.heap.size, 1, none⟩ = some (.slice none 0 0) := cell_of_row _ _ 1 _ _ _ D.res
      have rf0 := frozen_of_row (w3) w.heap.size 0 _ _ D.res
      have rf1 := frozen_of_row (w3) w.heap.size 1 _ _ D.res
      obtain ⟨hn, hcA, hcn, hcm, hrow2⟩ := D.row.clip
      clear hn
      by_cases hL : 20000 < long
      · have hd : decide (20000 < long) = true := by simp [hL]
        obtain rfl : R = (⟨0, []⟩, 3) := by rw [HD, if_pos hL]
        clear HD hL
        go_wp2_with fail
        exact done_end D _ _ _ (RowO.nil _ _) rfl rfl rfl
      · have hd : decide (20000 < long) = false := by simp; omega
        by_cases h2 : 2000 < l0.length + 1
        · have hd2 : decide ((2000 : Int) < (l0.length : Int) + 1) = true := by simp; omega
          obtain rfl : R = (⟨0, []⟩, 2) := by rw [HD, if_neg hL, if_pos (by simpa using h2)]
          clear HD hL h2
          go_wp2_with fail
          exact done_end D _ _ _ (RowO.nil _ _) rfl rfl rfl
        · have hd2 : decide ((2000 : Int) < (l0.length : Int) + 1) = false := by simp; omega
          obtain rfl : R = (⟨f, l0 ++ [x]⟩, 0) := by rw [HD, if_neg hL, if_neg (by simpa using h2)]
          clear HD hL h2
          have hclip := clip_any (some ⟨g0, 0, none⟩) (l0.length + 1) c3 hcA hcn hcm
          go_wp2_with (go_at_call 95; (with_reducible refine (hclip _).mono ?_); rintro e w5 ⟨rfl, rfl⟩)
          exact done_end D _ _ _ hrow2 rfl rfl rfl
end Go.Proofs.YtaemajcpgmaapaaDoor
