/- change.Right; change.maker.flush; slices.Clip. -/
import Derived.Test.YtaemajcpgmaapaaDoorPut
import Derived.Test.YtaemajcpgmaapaaDoorChange2
import Derived.Deep.RegionHeld3
namespace Go.Proofs.YtaemajcpgmaapaaDoor
open Go.RowKit

theorem right_ch (f : Int) (vo : Value) (l : List Op) (S : Nat → Prop) (w : World) (h : Rd KO S w vo l) (hT : Tabs w) :
    Calls Tryd.prog 25 #[.agg #[.int .i64 f, vo]] w fun e w' => e = .returned (.int .i64 (toR ⟨f, l⟩).2) ∧ Below w.heap.size w w' := by
  have c1 := to_any f vo l S
  obtain ⟨r1, r2, HR⟩ : ∃ r1 r2, Hid (toR ⟨f, l⟩ = (r1, r2)) := ⟨_, _, rfl⟩
  rw [HR.out] at c1
  obtain ⟨A, c, rfl, hA, hr⟩ := h
  have hb0 : Below w.heap.size w (w.alloc (.cells #[.int .i64 f, .slice A l.length c] 24)) := (Below.refl _ _).alloc (Nat.le_refl _) _
  go_enter Tryd.func25, Tryd.ntmps25
  go_wp2_with fail
  refine (c1 _ (Rd.below ⟨A, c, rfl, hA, hr⟩ hb0) (hT.below hb0)).mono ?_
  rintro e w1 ⟨rfl, hb1⟩
  have hb2 := hb0.trans (hb1.mono hb0.size)
  unfold R2
  go_wp2_with fail
  go_ret
  rw [HR.out]
  exact ⟨rfl, hb2⟩

theorem OwnO.fits {lo : Nat} {w : World} {v : Value} {l : List Op} (h : OwnO lo w v l) : ∀ x ∈ l, Fits x.text := by
  obtain ⟨ps, rfl, _, h2, _⟩ := h
  intro x hx
  obtain ⟨p, hp, rfl⟩ := List.mem_map.1 hx
  exact (h2 p hp).2

/-- What waits, put down. -/
def flushL (s : List Op × Int) : List Op × Int := if 0 < s.2 then (putL s.1 ⟨3, s.2, ⟨#[]⟩, []⟩, 0) else s

set_option maxRecDepth 100000 in
theorem flush_ch (mb : Nat) (T : Nat) (v : Value) (l : List Op) (gone : Int) (lo : Nat) (w : World)
    (hmb : w.heap[mb]? = some (.cells #[v, .int .i64 gone] T (0, 0))) (hlo : lo ≤ mb) (hT1 : T ≠ 30) (hT2 : T ≠ 102) (hown : OwnO lo w v l)
    (hlen : (l.length + 1) * 56 ≤ 140737488355328) :
    Calls Tryd.prog 93 #[.pointer (some ⟨mb, 0, none⟩)] w fun e w' => e = .returned (.tuple #[]) ∧
      ∃ v', w'.heap[mb]? = some (.cells #[v', .int .i64 (flushL (l, gone)).2] T (0, 0)) ∧ OwnO lo w' v' (flushL (l, gone)).1 ∧ Chg (fun k => k = mb ∨ v.ownBlock = some k) w w' ∧ (v'.ownBlock = v.ownBlock ∨ ∃ k, v'.ownBlock = some k ∧ w.heap.size ≤ k) := by
  have hsz := hown.fits
  have c0 : w.cell? ⟨mb, 0, none⟩ = some v := by rw [cell_of_row w mb 0 _ T (0, 0) hmb]; rfl
  have c1 : w.cell? ⟨mb, 1, none⟩ = some (.int .i64 gone) := by rw [cell_of_row w mb 1 _ T (0, 0) hmb]; rfl
  by_cases hg : 0 < gone
  · have hd : decide (0 < gone) = true := by simp [hg]
    have HF : Hid (flushL (l, gone) = (putL l ⟨3, gone, ⟨#[]⟩, []⟩, 0)) := by unfold Hid flushL; rw [if_pos hg]
    have hmbw : mb < w.heap.size := (Array.getElem?_eq_some_iff.1 hmb).1
    have hput := fun W (hb : Below w.heap.size w W) => rowPut mb #[v, .int .i64 gone] T v l lo 3 gone ⟨#[]⟩ (.slice none 0 0) [] (fun _ => True) W ((hb.block mb hmbw).trans hmb) rfl hlo hT1 hT2 (hown.below hb) (Rd.nil _ _ _ _ _ (by simp)) (by show (0 : Nat) ≤ _; omega) (fun x hx => by show x.text.size + 0 ≤ _; have := hsz x hx; unfold Fits at this; omega) hlen
    go_enter Tryd.func93, Tryd.ntmps93
    go_wp2_with fail
    go_region_held3 (fun w' => w'.cell? ⟨mb, 1, none⟩ = some (.int .i64 gone)) (first | exact c1 | exact cell_of_row _ mb 1 _ T (0, 0) hmb1 | go_keep)
      (first | (go_at_call 94; refine (hput _ (Below.refl _ _).drew).mono ?_; rintro e w1 ⟨rfl, v', hmb1, ho1, hc1, hv1⟩))
    have k1 : w1.cell? ⟨mb, 1, none⟩ = some (.int .i64 gone) := cell_of_row _ mb 1 _ T (0, 0) hmb1
    have k2 : w1.frozen? ⟨mb, 1, none⟩ = false := by simp [World.frozen?, hmb1]
    go_wp2_with fail
    refine bodyPost_end (results_none rfl _ _ _) rfl ⟨rfl, ?_⟩
    rw [HF.out]
    have hs : Chg (fun k => k = mb) w1 (w1.setCell ⟨mb, 1, none⟩ (.int .i64 0)) := (Chg.refl _ _).setCell _ fun _ => rfl
    refine ⟨v', heap_setCell_same w1 mb 1 _ T _ hmb1, ho1.chg hs (fun k hk e => own_ne_blockO ho1 hmb1 hT1 k hk e) (fun k _ hk e => ?_), Chg.trans (X := fun k => k = mb ∨ v.ownBlock = some k) (Chg.trans (X := fun k => k = mb ∨ v.ownBlock = some k) (Chg.refl _ w).drew hc1 fun _ _ h => h) hs fun k _ e => .inl e, hv1⟩
    obtain ⟨cs', fr, hk⟩ := hk
    subst e
    rw [hmb1] at hk
    injection hk with hk
    injection hk with _ ht
    exact hT2 ht
  · have hd : decide (0 < gone) = false := by simp [hg]
    have HF : Hid (flushL (l, gone) = (l, gone)) := by unfold Hid flushL; rw [if_neg hg]
    go_enter Tryd.func93, Tryd.ntmps93
    go_wp2_with fail
    refine bodyPost_end (results_none rfl _ _ _) rfl ⟨rfl, v, ?_⟩
    rw [HF.out]
    exact ⟨hmb, hown, Chg.refl _ _, .inl rfl⟩

theorem clip_any (A : Option Addr) (n c : Nat) (hA : A = none → c = 0) (hn : n ≤ c) (hm : c ≤ 9223372036854775807) (w : World) :
    Calls Tryd.prog 95 #[.slice A n c] w fun e w' => e = .returned (.slice A n n) ∧ w' = w := by
  have h1 : (0 : Int) ≤ (n : Int) := by omega
  have h2 : (n : Int) ≤ (c : Int) := by omega
  cases A with
  | none =>
    obtain rfl := hA rfl
    obtain rfl : n = 0 := by omega
    go_enter Tryd.func95, Tryd.ntmps95
    go_wp2_with fail
    go_ret
    exact ⟨rfl, rfl⟩
  | some a =>
    go_enter Tryd.func95, Tryd.ntmps95
    go_wp2_with fail
    go_ret
    exact ⟨rfl, rfl⟩
end Go.Proofs.YtaemajcpgmaapaaDoor
