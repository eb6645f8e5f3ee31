/- change: which operations and changesets may be; how long what comes of them is. -/
import Derived.Test.YtaemajcpgmaapaaDoorAttrs4
namespace Go.Proofs.YtaemajcpgmaapaaDoor
open Go.RowKit

/-- An operation as a value. -/
def opV (o : Op) (va : Value) : Value := .agg #[.int .i64 o.kind, .int .i64 o.n, .string o.text, va]

def shapedB (o : Op) : Bool :=
  if o.kind = 2 then (o.n == 0) && !o.text.toList.isEmpty
  else if o.kind = 3 then decide (0 < o.n) && (o.text.toList.isEmpty && decide (o.attrs.length = 0))
  else (o.kind == 1) && (decide (0 < o.n) && o.text.toList.isEmpty)

set_option maxHeartbeats 2000000 in
theorem shaped_any (kind n : Int) (text : ByteArray) (va : Value) (l : List Attr) (S : Nat → Prop) (w : World) (h : Rd KA S w va l) :
    Calls Tryd.prog 145 #[.agg #[.int .i64 kind, .int .i64 n, .string text, va]] w fun e w' => e = .returned (.bool (shapedB ⟨kind, n, text, l⟩)) ∧ Below w.heap.size w w' := by
  obtain ⟨A, c, rfl, _, _⟩ := h
  go_enter Tryd.func145, Tryd.ntmps145
  go_wp2_with fail
  all_goals
    go_ret
    refine ⟨?_, (Below.refl _ _).alloc (Nat.le_refl _) _⟩
    simp_all [shapedB]
  all_goals first | (intros; omega) | (rcases l with _ | ⟨_, _⟩ <;> simp <;> omega)

/-- What change.one answers: runes taken, runes more, an error. -/
def oneR (o : Op) (left : Int) : Int × Int × Int :=
  if shapedB o = false then (0, 0, 30)
  else if o.kind = 2 then if cntErr o.text = 0 then (0, cntN o.text, rtErr o.attrs) else (0, 0, cntErr o.text)
  else if chErr o.attrs = 0 then if left < o.n then (0, 0, 31) else if o.kind = 3 then (o.n, -o.n, 0) else (o.n, 0, 0)
  else (0, 0, chErr o.attrs)
theorem shaped_n {o : Op} (h : shapedB o = true) : o.kind = 2 ∧ o.n = 0 ∨ o.kind ≠ 2 ∧ 0 < o.n := by
  unfold shapedB at h
  by_cases h2 : o.kind = 2
  · left; rw [if_pos h2] at h; simp at h; exact ⟨h2, h.1⟩
  · right
    rw [if_neg h2] at h
    refine ⟨h2, ?_⟩
    split at h <;> simp at h <;> omega
theorem cntErr_or (s : ByteArray) : cntErr s = 0 ∨ cntErr s = 10 := by unfold cntErr; split <;> simp
def R3 (r : Int × Int × Int) : Value := .tuple #[.int .i64 r.1, .int .i64 r.2.1, .int .i64 r.2.2]

set_option maxHeartbeats 2000000 in
theorem one_any (kind n : Int) (text : ByteArray) (va : Value) (l : List Attr) (S : Nat → Prop) (left : Int) (w : World) (h : Rd KA S w va l) (ht : Fits text) (hT : Tabs w) (hl : left ≤ 20000) :
    Calls Tryd.prog 92 #[.agg #[.int .i64 kind, .int .i64 n, .string text, va], .int .i64 left] w fun e w' => e = .returned (R3 (oneR ⟨kind, n, text, l⟩ left)) ∧ Below w.heap.size w w' := by
  have hbx : Below w.heap.size w (w.alloc (.cells #[.int .i64 kind, .int .i64 n, .string text, va] 30)) := (Below.refl _ _).alloc (Nat.le_refl _) _
  have c1 := shaped_any kind n text va l S _ (h.below hbx)
  cases hs : shapedB ⟨kind, n, text, l⟩ with
  | false =>
    have HE : Hid (oneR ⟨kind, n, text, l⟩ left = (0, 0, 30)) := by rw [Hid, oneR, if_pos hs]
    rw [hs] at c1
    clear hs
    go_enter Tryd.func92, Tryd.ntmps92
    go_wp2_with (go_at_call 145; refine c1.mono ?_; rintro e w1 ⟨rfl, hb1⟩)
    go_ret3
    exact ⟨by rw [HE.out]; rfl, hbx.trans (hb1.mono hbx.size)⟩
  | true =>
    have hsn := shaped_n hs
    rw [hs] at c1
    by_cases h2 : kind = 2
    · subst h2
      have hn : n = 0 := by rcases hsn with h | h <;> simp_all
      subst hn
      have c2 := fun w h => count_any text w ht h
      rcases cntErr_or text with hc | hc
      · rw [hc] at c2
        have HE : Hid (oneR ⟨2, 0, text, l⟩ left = (0, cntN text, rtErr l)) := by rw [Hid, oneR, if_neg (by simp [hs]), if_pos rfl, if_pos hc]
        clear hc
        clear hs hsn
        go_enter Tryd.func92, Tryd.ntmps92
        go_wp2_with (first
          | (go_at_call 145; refine c1.mono ?_; rintro e w1 ⟨rfl, hb1⟩; have hb1' : Below w.heap.size w w1 := hbx.trans (hb1.mono hbx.size); have hq1 := (bcell hb1).1; clear c1)
          | (go_at_call 108; refine (c2 _ (hT.below hb1')).mono ?_; rintro e w2 ⟨rfl, hb2⟩; have hb2' : Below w.heap.size w w2 := hb1'.trans (hb2.mono hb1'.size); have hq2 := (bcell hb2).1; have hz1 : w.heap.size < w1.heap.size := by have := hb1.size; simp at this; omega)
          | (go_at_call 109; refine (right_any va l S _ (h.below hb2')).mono ?_; rintro e w3 ⟨rfl, hb3⟩))
        go_ret3
        exact ⟨by rw [HE.out]; rfl, hb2'.trans (hb3.mono hb2'.size)⟩
      · rw [hc] at c2
        have HE : Hid (oneR ⟨2, 0, text, l⟩ left = (0, 0, 10)) := by rw [Hid, oneR, if_neg (by simp [hs]), if_pos rfl, if_neg (by rw [hc]; decide), hc]
        clear hc
        clear hs hsn
        go_enter Tryd.func92, Tryd.ntmps92
        go_wp2_with (first
          | (go_at_call 145; refine c1.mono ?_; rintro e w1 ⟨rfl, hb1⟩; have hb1' : Below w.heap.size w w1 := hbx.trans (hb1.mono hbx.size); have hq1 := (bcell hb1).1; clear c1)
          | (go_at_call 108; refine (c2 _ (hT.below hb1')).mono ?_; rintro e w2 ⟨rfl, hb2⟩; have hb2' : Below w.heap.size w w2 := hb1'.trans (hb2.mono hb1'.size); have hq2 := (bcell hb2).1; have hz1 : w.heap.size < w1.heap.size := by have := hb1.size; simp at this; omega))
        go_ret3
        exact ⟨by rw [HE.out]; rfl, hb2'⟩
    · have hn : 0 < n := by rcases hsn with h | h <;> simp_all
      have hk : (kind == 2) = false := by simp [h2]
      have c3 := fun w h => change_any va l S w h
      rcases chErr_or l with hc | hc
      · rw [hc] at c3
        by_cases hlt : left < n
        · have HE : Hid (oneR ⟨kind, n, text, l⟩ left = (0, 0, 31)) := by rw [Hid, oneR, if_neg (by simp [hs]), if_neg h2, if_pos hc, if_pos hlt]
          clear hc h2
          clear hs hsn
          go_enter Tryd.func92, Tryd.ntmps92
          go_wp2_with (first
            | (go_at_call 145; refine c1.mono ?_; rintro e w1 ⟨rfl, hb1⟩; have hb1' : Below w.heap.size w w1 := hbx.trans (hb1.mono hbx.size); have hq1 := (bcell hb1).1; clear c1)
            | (go_at_call 138; refine (c3 _ (h.below hb1')).mono ?_; rintro e w2 ⟨rfl, hb2⟩; have hb2' : Below w.heap.size w w2 := hb1'.trans (hb2.mono hb1'.size); have hq2 := (bcell hb2).1; have hz1 : w.heap.size < w1.heap.size := by have := hb1.size; simp at this; omega))
          go_ret3
          exact ⟨by rw [HE.out]; rfl, hb2'⟩
        · by_cases h3 : kind = 3
          · subst h3
            have HE : Hid (oneR ⟨3, n, text, l⟩ left = (n, -n, 0)) := by rw [Hid, oneR, if_neg (by simp [hs]), if_neg h2, if_pos hc, if_neg hlt, if_pos rfl]
            clear hc h2
            clear hs hsn
            go_enter Tryd.func92, Tryd.ntmps92
            go_wp2_with (first
              | (go_at_call 145; refine c1.mono ?_; rintro e w1 ⟨rfl, hb1⟩; have hb1' : Below w.heap.size w w1 := hbx.trans (hb1.mono hbx.size); have hq1 := (bcell hb1).1; clear c1)
              | (go_at_call 138; refine (c3 _ (h.below hb1')).mono ?_; rintro e w2 ⟨rfl, hb2⟩; have hb2' : Below w.heap.size w w2 := hb1'.trans (hb2.mono hb1'.size); have hq2 := (bcell hb2).1; have hz1 : w.heap.size < w1.heap.size := by have := hb1.size; simp at this; omega))
            go_ret3
            exact ⟨by rw [HE.out]; rfl, hb2'⟩
          · have hk3 : (kind == 3) = false := by simp [h3]
            have HE : Hid (oneR ⟨kind, n, text, l⟩ left = (n, 0, 0)) := by rw [Hid, oneR, if_neg (by simp [hs]), if_neg h2, if_pos hc, if_neg hlt, if_neg h3]
            clear hc h2 h3
            clear hs hsn
            go_enter Tryd.func92, Tryd.ntmps92
            go_wp2_with (first
              | (go_at_call 145; refine c1.mono ?_; rintro e w1 ⟨rfl, hb1⟩; have hb1' : Below w.heap.size w w1 := hbx.trans (hb1.mono hbx.size); have hq1 := (bcell hb1).1; clear c1)
              | (go_at_call 138; refine (c3 _ (h.below hb1')).mono ?_; rintro e w2 ⟨rfl, hb2⟩; have hb2' : Below w.heap.size w w2 := hb1'.trans (hb2.mono hb1'.size); have hq2 := (bcell hb2).1; have hz1 : w.heap.size < w1.heap.size := by have := hb1.size; simp at this; omega))
            go_ret3
            exact ⟨by rw [HE.out]; rfl, hb2'⟩
      · rw [hc] at c3
        have HE : Hid (oneR ⟨kind, n, text, l⟩ left = (0, 0, 20)) := by rw [Hid, oneR, if_neg (by simp [hs]), if_neg h2, if_neg (by rw [hc]; decide), hc]
        clear hc h2
        clear hs hsn
        go_enter Tryd.func92, Tryd.ntmps92
        go_wp2_with (first
          | (go_at_call 145; refine c1.mono ?_; rintro e w1 ⟨rfl, hb1⟩; have hb1' : Below w.heap.size w w1 := hbx.trans (hb1.mono hbx.size); have hq1 := (bcell hb1).1; clear c1)
          | (go_at_call 138; refine (c3 _ (h.below hb1')).mono ?_; rintro e w2 ⟨rfl, hb2⟩; have hb2' : Below w.heap.size w w2 := hb1'.trans (hb2.mono hb1'.size); have hq2 := (bcell hb2).1; have hz1 : w.heap.size < w1.heap.size := by have := hb1.size; simp at this; omega))
        go_ret3
        exact ⟨by rw [HE.out]; rfl, hb2'⟩

end Go.Proofs.YtaemajcpgmaapaaDoor
