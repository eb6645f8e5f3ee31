/- attrs: what is left of a change behind another one; the others by merge. | change: which operations and changesets may be; how long what comes of them is. | change.To, change.Right. | attrs.Same draws, and turns nothing. -/
import Derived.Test.YtaemajcpgmaapaaDoorPkB
import Derived.Test.YtaemajcpgmaapaaDoorPkA
namespace Go.Proofs.YtaemajcpgmaapaaDoor
open Go.RowKit

def zeroA : Attr := ⟨⟨#[]⟩, ⟨#[]⟩⟩
def pkFollow (first : Bool) (x y : Option Attr) : Attr × Bool := match y with
  | none => (zeroA, false)
  | some b => if x.isSome && !first then (zeroA, false) else (b, true)
def pkCompose (x y : Option Attr) : Attr × Bool := match y with
  | some b => (b, true)
  | none => (x.getD zeroA, true)
def pkApply (x y : Option Attr) : Attr × Bool := match y with
  | some b => (b, !b.val.toList.isEmpty)
  | none => (x.getD zeroA, true)
def pkInvert (x y : Option Attr) : Attr × Bool := match y with
  | none => (zeroA, false)
  | some b => match x with
    | none => (⟨b.key, ⟨#[]⟩⟩, !b.val.toList.isEmpty)
    | some a => (a, !(a.val.toList == b.val.toList))

theorem fits_zero : Fits zeroA.key ∧ Fits zeroA.val := by constructor <;> (show (0 : Nat) ≤ _; omega)
theorem pkFollow_fits (first : Bool) : PickFits (pkFollow first) := by
  intro x y _ hy
  unfold pkFollow
  cases y with
  | none => exact fits_zero
  | some b =>
    simp only
    split
    · exact fits_zero
    · exact hy b rfl
theorem getD_fits {x : Option Attr} (hx : ∀ a, x = some a → Fits a.key ∧ Fits a.val) : Fits (x.getD zeroA).key ∧ Fits (x.getD zeroA).val := by
  cases x with
  | none => exact fits_zero
  | some a => exact hx a rfl
theorem pkCompose_fits : PickFits pkCompose := by
  intro x y hx hy
  cases y with
  | none => exact getD_fits hx
  | some b => exact hy b rfl
theorem pkApply_fits : PickFits pkApply := by
  intro x y hx hy
  cases y with
  | none => exact getD_fits hx
  | some b => exact hy b rfl
theorem pkInvert_fits : PickFits pkInvert := by
  intro x y hx hy
  cases y with
  | none => exact fits_zero
  | some b =>
    cases x with
    | none => exact ⟨(hy b rfl).1, fits_zero.1⟩
    | some a => exact hx a rfl

set_option maxHeartbeats 1000000 in
theorem pickFollow (cb : Nat) (first : Bool) (w0 : World) (hc : w0.cell? ⟨cb, 0, none⟩ = some (.bool first)) : PickAt 141 #[.pointer (some ⟨cb, 0, none⟩)] w0 (pkFollow first) := by
  intro W px py x y hb hx hy hxy
  have hcb : cb < w0.heap.size := World.block_lt_of_cell? _ _ hc
  have hc' := (hb.cell (p := ⟨cb, 0, none⟩) hcb).trans hc
  clear hc
  cases y with
  | none =>
    obtain rfl : py = _ := hy
    cases x with
    | none => simp at hxy
    | some a =>
      obtain ⟨b, o, rfl, h1, h2, h3⟩ := hx
      go_enter Tryd.func141, Tryd.ntmps141
      go_wp2
      exact bodyPost_ret (v := .tuple #[.agg #[.string ⟨#[]⟩, .string ⟨#[]⟩], .bool false]) (by simp [results, Tryd.results141, go_sem]) rfl ⟨rfl, (Below.refl _ _).alloc (Nat.le_refl _) _⟩
  | some y =>
    obtain ⟨b, o, rfl, h1, h2, h3⟩ := hy
    cases x with
    | none =>
      obtain rfl : px = _ := hx
      have hcb' : cb < W.heap.size := by have := hb.size; omega
      go_enter Tryd.func141, Tryd.ntmps141
      go_wp2
      exact bodyPost_ret (v := .tuple #[.agg #[.string y.key, .string y.val], .bool true]) (by simp [results, Tryd.results141, go_sem]) rfl ⟨rfl, (Below.refl _ _).alloc (Nat.le_refl _) _⟩
    | some x =>
      obtain ⟨b2, o2, rfl, _, _, _⟩ := hx
      have hcb' : cb < W.heap.size := by have := hb.size; omega
      cases first
      · go_enter Tryd.func141, Tryd.ntmps141
        go_wp2
        exact bodyPost_ret (v := .tuple #[.agg #[.string ⟨#[]⟩, .string ⟨#[]⟩], .bool false]) (by simp [results, Tryd.results141, go_sem]) rfl ⟨rfl, (Below.refl _ _).alloc (Nat.le_refl _) _⟩
      · go_enter Tryd.func141, Tryd.ntmps141
        go_wp2
        exact bodyPost_ret (v := .tuple #[.agg #[.string y.key, .string y.val], .bool true]) (by simp [results, Tryd.results141, go_sem]) rfl ⟨rfl, (Below.refl _ _).alloc (Nat.le_refl _) _⟩

set_option maxHeartbeats 1000000 in
theorem pickCompose (w0 : World) : PickAt 182 #[] w0 pkCompose := by
  intro W px py x y hb hx hy hxy
  cases y with
  | none =>
    obtain rfl : py = _ := hy
    cases x with
    | none => simp at hxy
    | some x =>
      obtain ⟨b, o, rfl, h1, h2, h3⟩ := hx
      go_enter Tryd.func182, Tryd.ntmps182
      go_wp2
      exact bodyPost_ret (v := .tuple #[.agg #[.string x.key, .string x.val], .bool true]) (by simp [results, Tryd.results182, go_sem]) rfl ⟨rfl, (Below.refl _ _).alloc (Nat.le_refl _) _⟩
  | some y =>
    obtain ⟨b, o, rfl, h1, h2, h3⟩ := hy
    have hp : ∃ p, px = .pointer p := by
      cases x with
      | none => exact ⟨_, hx⟩
      | some x => obtain ⟨_, _, e, _⟩ := hx; exact ⟨_, e⟩
    obtain ⟨p, rfl⟩ := hp
    clear hx
    go_enter Tryd.func182, Tryd.ntmps182
    go_wp2
    exact bodyPost_ret (v := .tuple #[.agg #[.string y.key, .string y.val], .bool true]) (by simp [results, Tryd.results182, go_sem]) rfl ⟨rfl, (Below.refl _ _).alloc (Nat.le_refl _) _⟩

set_option maxHeartbeats 1000000 in
theorem pickApply (w0 : World) : PickAt 177 #[] w0 pkApply := by
  intro W px py x y hb hx hy hxy
  cases y with
  | none =>
    obtain rfl : py = _ := hy
    cases x with
    | none => simp at hxy
    | some x =>
      obtain ⟨b, o, rfl, h1, h2, h3⟩ := hx
      go_enter Tryd.func177, Tryd.ntmps177
      go_wp2
      exact bodyPost_ret (v := .tuple #[.agg #[.string x.key, .string x.val], .bool true]) (by simp [results, Tryd.results177, go_sem]) rfl ⟨rfl, (Below.refl _ _).alloc (Nat.le_refl _) _⟩
  | some y =>
    obtain ⟨b, o, rfl, h1, h2, h3⟩ := hy
    have hp : ∃ p, px = .pointer p := by
      cases x with
      | none => exact ⟨_, hx⟩
      | some x => obtain ⟨_, _, e, _⟩ := hx; exact ⟨_, e⟩
    obtain ⟨p, rfl⟩ := hp
    clear hx
    have e : Hid (pkApply x (some y) = (y, !y.val.toList.isEmpty)) := rfl
    go_enter Tryd.func177, Tryd.ntmps177
    go_wp2_with fail
    go_region
    all_goals
      go_wp2
      exact bodyPost_ret (v := .tuple #[.agg #[.string y.key, .string y.val], .bool (!y.val.toList.isEmpty)]) (by simp [results, Tryd.results177, go_sem]) rfl ⟨rfl, (by repeat (first | exact Below.refl _ _ | assumption | refine Below.drew ?_ | refine below_drewN ?_ _ | refine Below.alloc ?_ (by (try simp) <;> omega) _ | refine Below.setCell ?_ (by (try simp) <;> omega) _))⟩

set_option maxHeartbeats 1000000 in
theorem pickInvert (w0 : World) : PickAt 178 #[] w0 pkInvert := by
  intro W px py x y hb hx hy hxy
  cases y with
  | none =>
    obtain rfl : py = _ := hy
    cases x with
    | none => simp at hxy
    | some x =>
      obtain ⟨b, o, rfl, h1, h2, h3⟩ := hx
      go_enter Tryd.func178, Tryd.ntmps178
      go_wp2
      exact bodyPost_ret (v := .tuple #[.agg #[.string ⟨#[]⟩, .string ⟨#[]⟩], .bool false]) (by simp [results, Tryd.results178, go_sem]) rfl ⟨rfl, (by repeat (first | exact Below.refl _ _ | assumption | refine Below.drew ?_ | refine below_drewN ?_ _ | refine Below.alloc ?_ (by (try simp) <;> omega) _ | refine Below.setCell ?_ (by (try simp) <;> omega) _))⟩
  | some y =>
    obtain ⟨b, o, rfl, h1, h2, h3⟩ := hy
    cases x with
    | none =>
      obtain rfl : px = _ := hx
      go_enter Tryd.func178, Tryd.ntmps178
      go_wp2_with fail
      go_region
      all_goals
        go_wp2
        exact bodyPost_ret (v := .tuple #[.agg #[.string y.key, .string ⟨#[]⟩], .bool (!y.val.toList.isEmpty)]) (by simp [results, Tryd.results178, go_sem]) rfl ⟨rfl, (by repeat (first | exact Below.refl _ _ | assumption | refine Below.drew ?_ | refine below_drewN ?_ _ | refine Below.alloc ?_ (by (try simp) <;> omega) _ | refine Below.setCell ?_ (by (try simp) <;> omega) _))⟩
    | some x =>
      obtain ⟨b2, o2, rfl, h4, h5, h6⟩ := hx
      go_enter Tryd.func178, Tryd.ntmps178
      go_wp2_with fail
      go_region
      all_goals
        go_wp2
        exact bodyPost_ret (v := .tuple #[.agg #[.string x.key, .string x.val], .bool (!(x.val.toList == y.val.toList))]) (by simp [results, Tryd.results178, go_sem]) rfl ⟨rfl, (by repeat (first | exact Below.refl _ _ | assumption | refine Below.drew ?_ | refine below_drewN ?_ _ | refine Below.alloc ?_ (by (try simp) <;> omega) _ | refine Below.setCell ?_ (by (try simp) <;> omega) _))⟩

/-! ### The four functions -/
theorem chOk_len {l : List Attr} (h : chErr l = 0) : l.length ≤ 8 := by
  by_cases hk : 8 < l.length
  · have : chErr l = 20 := chErr_bad 8 hk (by rw [atOk_eq 8 hk]; simp)
    omega
  · omega
theorem rt_ch {l : List Attr} (h : rtErr l = 0) : chErr l = 0 := by
  unfold rtErr at h
  split at h
  · omega
  · exact h

theorem few_yes (v : Value) (l : List Attr) (lo : Nat) (w : World) (h : OwnA lo w v l) (h8 : l.length ≤ 8) :
    Calls Tryd.prog 176 #[v] w fun e w' => e = .returned (.tuple #[v, .int .i64 0]) ∧ w = w' := by
  obtain ⟨A, c, rfl, _⟩ := h.rd
  have hd : decide ((8 : Int) < (l.length : Int)) = false := by simp; omega
  go_enter Tryd.func176, Tryd.ntmps176
  go_wp2
  go_ret2
  exact ⟨rfl, rfl⟩
theorem few_no (v : Value) (l : List Attr) (lo : Nat) (w : World) (h : OwnA lo w v l) (h8 : ¬ l.length ≤ 8) :
    Calls Tryd.prog 176 #[v] w fun e w' => e = .returned (.tuple #[.slice none 0 0, .int .i64 3]) ∧ w = w' := by
  obtain ⟨A, c, rfl, _⟩ := h.rd
  have hd : decide ((8 : Int) < (l.length : Int)) = true := by simp; omega
  go_enter Tryd.func176, Tryd.ntmps176
  go_wp2
  go_ret2
  exact ⟨rfl, rfl⟩

theorem chErr_or (l : List Attr) : chErr l = 0 ∨ chErr l = 20 := by unfold chErr; split <;> simp
theorem rtErr_or (l : List Attr) : rtErr l = 0 ∨ rtErr l = 20 := by unfold rtErr; split; · simp
                                                                    · exact chErr_or l
/-- What attrs.Follow answers. -/
def flErr (a b : List Attr) : Int := if chErr a = 0 ∧ chErr b = 0 then 0 else 20
def flL (a b : List Attr) (first : Bool) : List Attr := if flErr a b = 0 then mergeL (pkFollow first) a b else []
/-- attrs.Invert -/
def ivErr (a b : List Attr) : Int := if rtErr a = 0 ∧ chErr b = 0 then 0 else 20
def ivL (a b : List Attr) : List Attr := if ivErr a b = 0 then mergeL pkInvert a b else []
/-- attrs.Apply -/
def apErr (a b : List Attr) : Int := if rtErr a = 0 ∧ chErr b = 0 then if (mergeL pkApply a b).length ≤ 8 then 0 else 3 else 20
def apL (a b : List Attr) : List Attr := if apErr a b = 0 then mergeL pkApply a b else []
/-- attrs.Compose -/
def cpErr (a b : List Attr) : Int := if chErr a = 0 ∧ chErr b = 0 then if (mergeL pkCompose a b).length ≤ 8 then 0 else 3 else 20
def cpL (a b : List Attr) : List Attr := if cpErr a b = 0 then mergeL pkCompose a b else []

set_option maxHeartbeats 1000000 in
theorem follow_attrs (v1 v2 : Value) (a b : List Attr) (S1 S2 : Nat → Prop) (first : Bool) (w : World) (h1 : Rd KA S1 w v1 a) (h2 : Rd KA S2 w v2 b) :
    Calls Tryd.prog 82 #[v1, v2, .bool first] w fun e w' => ∃ v, e = .returned (.tuple #[v, .int .i64 (flErr a b)]) ∧ Below w.heap.size w w' ∧ OwnA w.heap.size w' v (flL a b first) := by
  have hbx : Below w.heap.size w (w.alloc (.cells #[.bool first] 4)) := (Below.refl _ _).alloc (Nat.le_refl _) _
  have c1 := change_any v1 a S1 _ (h1.below hbx)
  rcases chErr_or a with ha | ha
  · rw [ha] at c1
    rcases chErr_or b with hbb | hbb
    · have HE : Hid (flErr a b = 0) := by rw [Hid, flErr, if_pos ⟨ha, hbb⟩]
      have HL : Hid (flL a b first = mergeL (pkFollow first) a b) := by rw [Hid, flL, if_pos HE.out]
      have n1 := chOk_len ha
      have n2 := chOk_len hbb
      clear ha
      go_enter Tryd.func82, Tryd.ntmps82
      go_wp2_with fail
      refine c1.mono ?_
      rintro e w1 ⟨rfl, hb1⟩
      have hb1' : Below w.heap.size w w1 := hbx.trans (hb1.mono hbx.size)
      have c2 := change_any v2 b S2 _ (h2.below hb1')
      rw [hbb] at c2
      clear hbb
      go_wp2_with fail
      refine c2.mono ?_
      rintro e w2 ⟨rfl, hb2⟩
      have hb2' : Below w.heap.size w w2 := hb1'.trans (hb2.mono hb1'.size)
      have hbox : w2.cell? ⟨w.heap.size, 0, none⟩ = some (.bool first) := by
        have e1 := (hb1.trans (hb2.mono hb1.size)).cell (p := ⟨w.heap.size, 0, none⟩) (by simp)
        rw [e1]; simp
      have c3 := merge_any v1 v2 a b S1 S2 141 #[.pointer (some ⟨w.heap.size, 0, none⟩)] (pkFollow first) w2 (h1.below hb2') (h2.below hb2') n1 n2 (pickFollow w.heap.size first w2 hbox) (enters_of Tryd.func141 (by kernel_rfl) rfl) (pkFollow_fits first)
      go_wp2_with fail
      refine c3.mono ?_
      rintro e w3 ⟨v3, rfl, hb3, ho3⟩
      have hb3' : Below w.heap.size w w3 := hb2'.trans (hb3.mono hb2'.size)
      go_wp2_with fail
      go_ret2
      exact ⟨v3, by rw [HE.out]; rfl, hb3', by rw [HL.out]; exact ho3.mono hb2'.size⟩
    · have HE : Hid (flErr a b = 20) := by rw [Hid, flErr, if_neg (by omega)]
      have HL : Hid (flL a b first = []) := by rw [Hid, flL, if_neg (by rw [HE.out]; decide)]
      clear ha
      go_enter Tryd.func82, Tryd.ntmps82
      go_wp2_with fail
      refine c1.mono ?_
      rintro e w1 ⟨rfl, hb1⟩
      have hb1' : Below w.heap.size w w1 := hbx.trans (hb1.mono hbx.size)
      have c2 := change_any v2 b S2 _ (h2.below hb1')
      rw [hbb] at c2
      clear hbb
      go_wp2_with fail
      refine c2.mono ?_
      rintro e w2 ⟨rfl, hb2⟩
      go_wp2_with fail
      go_ret2
      exact ⟨_, by rw [HE.out]; rfl, hb1'.trans (hb2.mono hb1'.size), by rw [HL.out]; exact OwnA.nil _ _⟩
  · have HE : Hid (flErr a b = 20) := by rw [Hid, flErr, if_neg (by omega)]
    have HL : Hid (flL a b first = []) := by rw [Hid, flL, if_neg (by rw [HE.out]; decide)]
    rw [ha] at c1
    clear ha
    go_enter Tryd.func82, Tryd.ntmps82
    go_wp2_with fail
    refine c1.mono ?_
    rintro e w1 ⟨rfl, hb1⟩
    have hb1' : Below w.heap.size w w1 := hbx.trans (hb1.mono hbx.size)
    go_wp2_with fail
    go_ret2
    exact ⟨_, by rw [HE.out]; rfl, hb1', by rw [HL.out]; exact OwnA.nil _ _⟩

set_option maxHeartbeats 1000000 in
theorem invert_attrs (v1 v2 : Value) (a b : List Attr) (S1 S2 : Nat → Prop) (w : World) (h1 : Rd KA S1 w v1 a) (h2 : Rd KA S2 w v2 b) :
    Calls Tryd.prog 149 #[v1, v2] w fun e w' => ∃ v, e = .returned (.tuple #[v, .int .i64 (ivErr a b)]) ∧ Below w.heap.size w w' ∧ OwnA w.heap.size w' v (ivL a b) := by
  have hbx : Below w.heap.size w w := Below.refl _ _
  have c1 := right_any v1 a S1 _ (h1.below hbx)
  rcases rtErr_or a with ha | ha
  · rw [ha] at c1
    rcases chErr_or b with hbb | hbb
    · have HE : Hid (ivErr a b = 0) := by rw [Hid, ivErr, if_pos ⟨ha, hbb⟩]
      have HL : Hid (ivL a b = mergeL (pkInvert) a b) := by rw [Hid, ivL, if_pos HE.out]
      have n1 := chOk_len (rt_ch ha)
      have n2 := chOk_len hbb
      clear ha
      go_enter Tryd.func149, Tryd.ntmps149
      go_wp2_with fail
      refine c1.mono ?_
      rintro e w1 ⟨rfl, hb1⟩
      have hb1' : Below w.heap.size w w1 := hbx.trans (hb1.mono hbx.size)
      have c2 := change_any v2 b S2 _ (h2.below hb1')
      rw [hbb] at c2
      clear hbb
      go_wp2_with fail
      refine c2.mono ?_
      rintro e w2 ⟨rfl, hb2⟩
      have hb2' : Below w.heap.size w w2 := hb1'.trans (hb2.mono hb1'.size)
      have c3 := merge_any v1 v2 a b S1 S2 178 #[] (pkInvert) w2 (h1.below hb2') (h2.below hb2') n1 n2 (pickInvert w2) (enters_of Tryd.func178 (by kernel_rfl) rfl) (pkInvert_fits)
      go_wp2_with fail
      refine c3.mono ?_
      rintro e w3 ⟨v3, rfl, hb3, ho3⟩
      have hb3' : Below w.heap.size w w3 := hb2'.trans (hb3.mono hb2'.size)
      go_wp2_with fail
      go_ret2
      exact ⟨v3, by rw [HE.out]; rfl, hb3', by rw [HL.out]; exact ho3.mono hb2'.size⟩
    · have HE : Hid (ivErr a b = 20) := by rw [Hid, ivErr, if_neg (by omega)]
      have HL : Hid (ivL a b = []) := by rw [Hid, ivL, if_neg (by rw [HE.out]; decide)]
      clear ha
      go_enter Tryd.func149, Tryd.ntmps149
      go_wp2_with fail
      refine c1.mono ?_
      rintro e w1 ⟨rfl, hb1⟩
      have hb1' : Below w.heap.size w w1 := hbx.trans (hb1.mono hbx.size)
      have c2 := change_any v2 b S2 _ (h2.below hb1')
      rw [hbb] at c2
      clear hbb
      go_wp2_with fail
      refine c2.mono ?_
      rintro e w2 ⟨rfl, hb2⟩
      go_wp2_with fail
      go_ret2
      exact ⟨_, by rw [HE.out]; rfl, hb1'.trans (hb2.mono hb1'.size), by rw [HL.out]; exact OwnA.nil _ _⟩
  · have HE : Hid (ivErr a b = 20) := by rw [Hid, ivErr, if_neg (by omega)]
    have HL : Hid (ivL a b = []) := by rw [Hid, ivL, if_neg (by rw [HE.out]; decide)]
    rw [ha] at c1
    clear ha
    go_enter Tryd.func149, Tryd.ntmps149
    go_wp2_with fail
    refine c1.mono ?_
    rintro e w1 ⟨rfl, hb1⟩
    have hb1' : Below w.heap.size w w1 := hbx.trans (hb1.mono hbx.size)
    go_wp2_with fail
    go_ret2
    exact ⟨_, by rw [HE.out]; rfl, hb1', by rw [HL.out]; exact OwnA.nil _ _⟩

set_option maxHeartbeats 1000000 in
theorem apply_attrs (v1 v2 : Value) (a b : List Attr) (S1 S2 : Nat → Prop) (w : World) (h1 : Rd KA S1 w v1 a) (h2 : Rd KA S2 w v2 b) :
    Calls Tryd.prog 148 #[v1, v2] w fun e w' => ∃ v, e = .returned (.tuple #[v, .int .i64 (apErr a b)]) ∧ Below w.heap.size w w' ∧ OwnA w.heap.size w' v (apL a b) := by
  have hbx : Below w.heap.size w w := Below.refl _ _
  have c1 := right_any v1 a S1 _ (h1.below hbx)
  rcases rtErr_or a with ha | ha
  · rw [ha] at c1
    rcases chErr_or b with hbb | hbb
    · by_cases h8 : (mergeL (pkApply) a b).length ≤ 8
      · have HE : Hid (apErr a b = 0) := by rw [Hid, apErr, if_pos ⟨ha, hbb⟩, if_pos h8]
        have HL : Hid (apL a b = mergeL (pkApply) a b) := by rw [Hid, apL, if_pos HE.out]
        have n1 := chOk_len (rt_ch ha)
        have n2 := chOk_len hbb
        clear ha
        go_enter Tryd.func148, Tryd.ntmps148
        go_wp2_with fail
        refine c1.mono ?_
        rintro e w1 ⟨rfl, hb1⟩
        have hb1' : Below w.heap.size w w1 := hbx.trans (hb1.mono hbx.size)
        have c2 := change_any v2 b S2 _ (h2.below hb1')
        rw [hbb] at c2
        clear hbb
        go_wp2_with fail
        refine c2.mono ?_
        rintro e w2 ⟨rfl, hb2⟩
        have hb2' : Below w.heap.size w w2 := hb1'.trans (hb2.mono hb1'.size)
        have c3 := merge_any v1 v2 a b S1 S2 177 #[] (pkApply) w2 (h1.below hb2') (h2.below hb2') n1 n2 (pickApply w2) (enters_of Tryd.func177 (by kernel_rfl) rfl) (pkApply_fits)
        go_wp2_with fail
        refine c3.mono ?_
        rintro e w3 ⟨v3, rfl, hb3, ho3⟩
        have hb3' : Below w.heap.size w w3 := hb2'.trans (hb3.mono hb2'.size)
        have c4 := few_yes v3 _ _ w3 ho3 h8
        go_wp2_with fail
        refine c4.mono ?_
        rintro e w4 ⟨rfl, rfl⟩
        go_wp2_with fail
        go_ret2
        exact ⟨v3, by rw [HE.out]; rfl, hb3', by rw [HL.out]; exact ho3.mono hb2'.size⟩
      · have HE : Hid (apErr a b = 3) := by rw [Hid, apErr, if_pos ⟨ha, hbb⟩, if_neg h8]
        have HL : Hid (apL a b = []) := by rw [Hid, apL, if_neg (by rw [HE.out]; decide)]
        have n1 := chOk_len (rt_ch ha)
        have n2 := chOk_len hbb
        clear ha
        go_enter Tryd.func148, Tryd.ntmps148
        go_wp2_with fail
        refine c1.mono ?_
        rintro e w1 ⟨rfl, hb1⟩
        have hb1' : Below w.heap.size w w1 := hbx.trans (hb1.mono hbx.size)
        have c2 := change_any v2 b S2 _ (h2.below hb1')
        rw [hbb] at c2
        clear hbb
        go_wp2_with fail
        refine c2.mono ?_
        rintro e w2 ⟨rfl, hb2⟩
        have hb2' : Below w.heap.size w w2 := hb1'.trans (hb2.mono hb1'.size)
        have c3 := merge_any v1 v2 a b S1 S2 177 #[] (pkApply) w2 (h1.below hb2') (h2.below hb2') n1 n2 (pickApply w2) (enters_of Tryd.func177 (by kernel_rfl) rfl) (pkApply_fits)
        go_wp2_with fail
        refine c3.mono ?_
        rintro e w3 ⟨v3, rfl, hb3, ho3⟩
        have hb3' : Below w.heap.size w w3 := hb2'.trans (hb3.mono hb2'.size)
        have c4 := few_no v3 _ _ w3 ho3 h8
        go_wp2_with fail
        refine c4.mono ?_
        rintro e w4 ⟨rfl, rfl⟩
        go_wp2_with fail
        go_ret2
        exact ⟨_, by rw [HE.out]; rfl, hb3', by rw [HL.out]; exact OwnA.nil _ _⟩
    · have HE : Hid (apErr a b = 20) := by rw [Hid, apErr, if_neg (by omega)]
      have HL : Hid (apL a b = []) := by rw [Hid, apL, if_neg (by rw [HE.out]; decide)]
      clear ha
      go_enter Tryd.func148, Tryd.ntmps148
      go_wp2_with fail
      refine c1.mono ?_
      rintro e w1 ⟨rfl, hb1⟩
      have hb1' : Below w.heap.size w w1 := hbx.trans (hb1.mono hbx.size)
      have c2 := change_any v2 b S2 _ (h2.below hb1')
      rw [hbb] at c2
      clear hbb
      go_wp2_with fail
      refine c2.mono ?_
      rintro e w2 ⟨rfl, hb2⟩
      go_wp2_with fail
      go_ret2
      exact ⟨_, by rw [HE.out]; rfl, hb1'.trans (hb2.mono hb1'.size), by rw [HL.out]; exact OwnA.nil _ _⟩
  · have HE : Hid (apErr a b = 20) := by rw [Hid, apErr, if_neg (by omega)]
    have HL : Hid (apL a b = []) := by rw [Hid, apL, if_neg (by rw [HE.out]; decide)]
    rw [ha] at c1
    clear ha
    go_enter Tryd.func148, Tryd.ntmps148
    go_wp2_with fail
    refine c1.mono ?_
    rintro e w1 ⟨rfl, hb1⟩
    have hb1' : Below w.heap.size w w1 := hbx.trans (hb1.mono hbx.size)
    go_wp2_with fail
    go_ret2
    exact ⟨_, by rw [HE.out]; rfl, hb1', by rw [HL.out]; exact OwnA.nil _ _⟩

set_option maxHeartbeats 1000000 in
theorem compose_attrs (v1 v2 : Value) (a b : List Attr) (S1 S2 : Nat → Prop) (w : World) (h1 : Rd KA S1 w v1 a) (h2 : Rd KA S2 w v2 b) :
    Calls Tryd.prog 162 #[v1, v2] w fun e w' => ∃ v, e = .returned (.tuple #[v, .int .i64 (cpErr a b)]) ∧ Below w.heap.size w w' ∧ OwnA w.heap.size w' v (cpL a b) := by
  have hbx : Below w.heap.size w w := Below.refl _ _
  have c1 := change_any v1 a S1 _ (h1.below hbx)
  rcases chErr_or a with ha | ha
  · rw [ha] at c1
    rcases chErr_or b with hbb | hbb
    · by_cases h8 : (mergeL (pkCompose) a b).length ≤ 8
      · have HE : Hid (cpErr a b = 0) := by rw [Hid, cpErr, if_pos ⟨ha, hbb⟩, if_pos h8]
        have HL : Hid (cpL a b = mergeL (pkCompose) a b) := by rw [Hid, cpL, if_pos HE.out]
        have n1 := chOk_len ha
        have n2 := chOk_len hbb
        clear ha
        go_enter Tryd.func162, Tryd.ntmps162
        go_wp2_with fail
        refine c1.mono ?_
        rintro e w1 ⟨rfl, hb1⟩
        have hb1' : Below w.heap.size w w1 := hbx.trans (hb1.mono hbx.size)
        have c2 := change_any v2 b S2 _ (h2.below hb1')
        rw [hbb] at c2
        clear hbb
        go_wp2_with fail
        refine c2.mono ?_
        rintro e w2 ⟨rfl, hb2⟩
        have hb2' : Below w.heap.size w w2 := hb1'.trans (hb2.mono hb1'.size)
        have c3 := merge_any v1 v2 a b S1 S2 182 #[] (pkCompose) w2 (h1.below hb2') (h2.below hb2') n1 n2 (pickCompose w2) (enters_of Tryd.func182 (by kernel_rfl) rfl) (pkCompose_fits)
        go_wp2_with fail
        refine c3.mono ?_
        rintro e w3 ⟨v3, rfl, hb3, ho3⟩
        have hb3' : Below w.heap.size w w3 := hb2'.trans (hb3.mono hb2'.size)
        have c4 := few_yes v3 _ _ w3 ho3 h8
        go_wp2_with fail
        refine c4.mono ?_
        rintro e w4 ⟨rfl, rfl⟩
        go_wp2_with fail
        go_ret2
        exact ⟨v3, by rw [HE.out]; rfl, hb3', by rw [HL.out]; exact ho3.mono hb2'.size⟩
      · have HE : Hid (cpErr a b = 3) := by rw [Hid, cpErr, if_pos ⟨ha, hbb⟩, if_neg h8]
        have HL : Hid (cpL a b = []) := by rw [Hid, cpL, if_neg (by rw [HE.out]; decide)]
        have n1 := chOk_len ha
        have n2 := chOk_len hbb
        clear ha
        go_enter Tryd.func162, Tryd.ntmps162
        go_wp2_with fail
        refine c1.mono ?_
        rintro e w1 ⟨rfl, hb1⟩
        have hb1' : Below w.heap.size w w1 := hbx.trans (hb1.mono hbx.size)
        have c2 := change_any v2 b S2 _ (h2.below hb1')
        rw [hbb] at c2
        clear hbb
        go_wp2_with fail
        refine c2.mono ?_
        rintro e w2 ⟨rfl, hb2⟩
        have hb2' : Below w.heap.size w w2 := hb1'.trans (hb2.mono hb1'.size)
        have c3 := merge_any v1 v2 a b S1 S2 182 #[] (pkCompose) w2 (h1.below hb2') (h2.below hb2') n1 n2 (pickCompose w2) (enters_of Tryd.func182 (by kernel_rfl) rfl) (pkCompose_fits)
        go_wp2_with fail
        refine c3.mono ?_
        rintro e w3 ⟨v3, rfl, hb3, ho3⟩
        have hb3' : Below w.heap.size w w3 := hb2'.trans (hb3.mono hb2'.size)
        have c4 := few_no v3 _ _ w3 ho3 h8
        go_wp2_with fail
        refine c4.mono ?_
        rintro e w4 ⟨rfl, rfl⟩
        go_wp2_with fail
        go_ret2
        exact ⟨_, by rw [HE.out]; rfl, hb3', by rw [HL.out]; exact OwnA.nil _ _⟩
    · have HE : Hid (cpErr a b = 20) := by rw [Hid, cpErr, if_neg (by omega)]
      have HL : Hid (cpL a b = []) := by rw [Hid, cpL, if_neg (by rw [HE.out]; decide)]
      clear ha
      go_enter Tryd.func162, Tryd.ntmps162
      go_wp2_with fail
      refine c1.mono ?_
      rintro e w1 ⟨rfl, hb1⟩
      have hb1' : Below w.heap.size w w1 := hbx.trans (hb1.mono hbx.size)
      have c2 := change_any v2 b S2 _ (h2.below hb1')
      rw [hbb] at c2
      clear hbb
      go_wp2_with fail
      refine c2.mono ?_
      rintro e w2 ⟨rfl, hb2⟩
      go_wp2_with fail
      go_ret2
      exact ⟨_, by rw [HE.out]; rfl, hb1'.trans (hb2.mono hb1'.size), by rw [HL.out]; exact OwnA.nil _ _⟩
  · have HE : Hid (cpErr a b = 20) := by rw [Hid, cpErr, if_neg (by omega)]
    have HL : Hid (cpL a b = []) := by rw [Hid, cpL, if_neg (by rw [HE.out]; decide)]
    rw [ha] at c1
    clear ha
    go_enter Tryd.func162, Tryd.ntmps162
    go_wp2_with fail
    refine c1.mono ?_
    rintro e w1 ⟨rfl, hb1⟩
    have hb1' : Below w.heap.size w w1 := hbx.trans (hb1.mono hbx.size)
    go_wp2_with fail
    go_ret2
    exact ⟨_, by rw [HE.out]; rfl, hb1', by rw [HL.out]; exact OwnA.nil _ _⟩

end Go.Proofs.YtaemajcpgmaapaaDoor

namespace Go.Proofs.YtaemajcpgmaapaaDoor
open Go.RowKit

/-- An operation as a value. -/
def opV (o : Op) (va : Value) : Value := .agg #[.int .i64 o.kind, .int .i64 o.n, .string o.text, va]

def shapedB (o : Op) : Bool :=
  if o.kind = 2 then (o.n == 0) && !o.text.toList.isEmpty
  else if o.kind = 3 then decide (0 < o.n) && (o.text.toList.isEmpty && decide (o.attrs.length = 0))
  else (o.kind == 1) && (decide (0 < o.n) && o.text.toList.isEmpty)

set_option maxHeartbeats 2000000 in
theorem shaped_any (kind n : Int) (text : ByteArray) (va : Value) (l : List Attr) (S : Nat → Prop) (w : World) (h : Rd KA S w va l) :
    Calls Tryd.prog 145 #[.agg #[.int .i64 kind, .int .i64 n, .string text, va]] w fun e w' => e = .returned (.bool (shapedB ⟨kind, n, text, l⟩)) ∧ Below w.heap.size w w' := by
  obtain ⟨A, c, rfl, _, _⟩ := h
  go_enter Tryd.func145, Tryd.ntmps145
  go_wp2_with fail
  all_goals
    go_ret
    refine ⟨?_, (Below.refl _ _).alloc (Nat.le_refl _) _⟩
    simp_all [shapedB]
  all_goals first | (intros; omega) | (rcases l with _ | ⟨_, _⟩ <;> simp <;> omega)

/-- What change.one answers: runes taken, runes more, an error. -/
def oneR (o : Op) (left : Int) : Int × Int × Int :=
  if shapedB o = false then (0, 0, 30)
  else if o.kind = 2 then if cntErr o.text = 0 then (0, cntN o.text, rtErr o.attrs) else (0, 0, cntErr o.text)
  else if chErr o.attrs = 0 then if left < o.n then (0, 0, 31) else if o.kind = 3 then (o.n, -o.n, 0) else (o.n, 0, 0)
  else (0, 0, chErr o.attrs)
theorem shaped_n {o : Op} (h : shapedB o = true) : o.kind = 2 ∧ o.n = 0 ∨ o.kind ≠ 2 ∧ 0 < o.n := by
  unfold shapedB at h
  by_cases h2 : o.kind = 2
  · left; rw [if_pos h2] at h; simp at h; exact ⟨h2, h.1⟩
  · right
    rw [if_neg h2] at h
    refine ⟨h2, ?_⟩
    split at h <;> simp at h <;> omega
theorem cntErr_or (s : ByteArray) : cntErr s = 0 ∨ cntErr s = 10 := by unfold cntErr; split <;> simp
def R3 (r : Int × Int × Int) : Value := .tuple #[.int .i64 r.1, .int .i64 r.2.1, .int .i64 r.2.2]

set_option maxHeartbeats 2000000 in
theorem one_any (kind n : Int) (text : ByteArray) (va : Value) (l : List Attr) (S : Nat → Prop) (left : Int) (w : World) (h : Rd KA S w va l) (ht : Fits text) (hT : Tabs w) (hl : left ≤ 20000) :
    Calls Tryd.prog 92 #[.agg #[.int .i64 kind, .int .i64 n, .string text, va], .int .i64 left] w fun e w' => e = .returned (R3 (oneR ⟨kind, n, text, l⟩ left)) ∧ Below w.heap.size w w' := by
  have hbx : Below w.heap.size w (w.alloc (.cells #[.int .i64 kind, .int .i64 n, .string text, va] 30)) := (Below.refl _ _).alloc (Nat.le_refl _) _
  have c1 := shaped_any kind n text va l S _ (h.below hbx)
  cases hs : shapedB ⟨kind, n, text, l⟩ with
  | false =>
    have HE : Hid (oneR ⟨kind, n, text, l⟩ left = (0, 0, 30)) := by rw [Hid, oneR, if_pos hs]
    rw [hs] at c1
    clear hs
    go_enter Tryd.func92, Tryd.ntmps92
    go_wp2_with (go_at_call 145; refine c1.mono ?_; rintro e w1 ⟨rfl, hb1⟩)
    go_ret3
    exact ⟨by rw [HE.out]; rfl, hbx.trans (hb1.mono hbx.size)⟩
  | true =>
    have hsn := shaped_n hs
    rw [hs] at c1
    by_cases h2 : kind = 2
    · subst h2
      have hn : n = 0 := by rcases hsn with h | h <;> simp_all
      subst hn
      have c2 := fun w h => count_any text w ht h
      rcases cntErr_or text with hc | hc
      · rw [hc] at c2
        have HE : Hid (oneR ⟨2, 0, text, l⟩ left = (0, cntN text, rtErr l)) := by rw [Hid, oneR, if_neg (by simp [hs]), if_pos rfl, if_pos hc]
        clear hc
        clear hs hsn
        go_enter Tryd.func92, Tryd.ntmps92
        go_wp2_with (first
          | (go_at_call 145; refine c1.mono ?_; rintro e w1 ⟨rfl, hb1⟩; have hb1' : Below w.heap.size w w1 := hbx.trans (hb1.mono hbx.size); have hq1 := (bcell hb1).1; clear c1)
          | (go_at_call 108; refine (c2 _ (hT.below hb1')).mono ?_; rintro e w2 ⟨rfl, hb2⟩; have hb2' : Below w.heap.size w w2 := hb1'.trans (hb2.mono hb1'.size); have hq2 := (bcell hb2).1; have hz1 : w.heap.size < w1.heap.size := by have := hb1.size; simp at this; omega)
          | (go_at_call 109; refine (right_any va l S _ (h.below hb2')).mono ?_; rintro e w3 ⟨rfl, hb3⟩))
        go_ret3
        exact ⟨by rw [HE.out]; rfl, hb2'.trans (hb3.mono hb2'.size)⟩
      · rw [hc] at c2
        have HE : Hid (oneR ⟨2, 0, text, l⟩ left = (0, 0, 10)) := by rw [Hid, oneR, if_neg (by simp [hs]), if_pos rfl, if_neg (by rw [hc]; decide), hc]
        clear hc
        clear hs hsn
        go_enter Tryd.func92, Tryd.ntmps92
        go_wp2_with (first
          | (go_at_call 145; refine c1.mono ?_; rintro e w1 ⟨rfl, hb1⟩; have hb1' : Below w.heap.size w w1 := hbx.trans (hb1.mono hbx.size); have hq1 := (bcell hb1).1; clear c1)
          | (go_at_call 108; refine (c2 _ (hT.below hb1')).mono ?_; rintro e w2 ⟨rfl, hb2⟩; have hb2' : Below w.heap.size w w2 := hb1'.trans (hb2.mono hb1'.size); have hq2 := (bcell hb2).1; have hz1 : w.heap.size < w1.heap.size := by have := hb1.size; simp at this; omega))
        go_ret3
        exact ⟨by rw [HE.out]; rfl, hb2'⟩
    · have hn : 0 < n := by rcases hsn with h | h <;> simp_all
      have hk : (kind == 2) = false := by simp [h2]
      have c3 := fun w h => change_any va l S w h
      rcases chErr_or l with hc | hc
      · rw [hc] at c3
        by_cases hlt : left < n
        · have HE : Hid (oneR ⟨kind, n, text, l⟩ left = (0, 0, 31)) := by rw [Hid, oneR, if_neg (by simp [hs]), if_neg h2, if_pos hc, if_pos hlt]
          clear hc h2
          clear hs hsn
          go_enter Tryd.func92, Tryd.ntmps92
          go_wp2_with (first
            | (go_at_call 145; refine c1.mono ?_; rintro e w1 ⟨rfl, hb1⟩; have hb1' : Below w.heap.size w w1 := hbx.trans (hb1.mono hbx.size); have hq1 := (bcell hb1).1; clear c1)
            | (go_at_call 138; refine (c3 _ (h.below hb1')).mono ?_; rintro e w2 ⟨rfl, hb2⟩; have hb2' : Below w.heap.size w w2 := hb1'.trans (hb2.mono hb1'.size); have hq2 := (bcell hb2).1; have hz1 : w.heap.size < w1.heap.size := by have := hb1.size; simp at this; omega))
          go_ret3
          exact ⟨by rw [HE.out]; rfl, hb2'⟩
        · by_cases h3 : kind = 3
          · subst h3
            have HE : Hid (oneR ⟨3, n, text, l⟩ left = (n, -n, 0)) := by rw [Hid, oneR, if_neg (by simp [hs]), if_neg h2, if_pos hc, if_neg hlt, if_pos rfl]
            clear hc h2
            clear hs hsn
            go_enter Tryd.func92, Tryd.ntmps92
            go_wp2_with (first
              | (go_at_call 145; refine c1.mono ?_; rintro e w1 ⟨rfl, hb1⟩; have hb1' : Below w.heap.size w w1 := hbx.trans (hb1.mono hbx.size); have hq1 := (bcell hb1).1; clear c1)
              | (go_at_call 138; refine (c3 _ (h.below hb1')).mono ?_; rintro e w2 ⟨rfl, hb2⟩; have hb2' : Below w.heap.size w w2 := hb1'.trans (hb2.mono hb1'.size); have hq2 := (bcell hb2).1; have hz1 : w.heap.size < w1.heap.size := by have := hb1.size; simp at this; omega))
            go_ret3
            exact ⟨by rw [HE.out]; rfl, hb2'⟩
          · have hk3 : (kind == 3) = false := by simp [h3]
            have HE : Hid (oneR ⟨kind, n, text, l⟩ left = (n, 0, 0)) := by rw [Hid, oneR, if_neg (by simp [hs]), if_neg h2, if_pos hc, if_neg hlt, if_neg h3]
            clear hc h2 h3
            clear hs hsn
            go_enter Tryd.func92, Tryd.ntmps92
            go_wp2_with (first
              | (go_at_call 145; refine c1.mono ?_; rintro e w1 ⟨rfl, hb1⟩; have hb1' : Below w.heap.size w w1 := hbx.trans (hb1.mono hbx.size); have hq1 := (bcell hb1).1; clear c1)
              | (go_at_call 138; refine (c3 _ (h.below hb1')).mono ?_; rintro e w2 ⟨rfl, hb2⟩; have hb2' : Below w.heap.size w w2 := hb1'.trans (hb2.mono hb1'.size); have hq2 := (bcell hb2).1; have hz1 : w.heap.size < w1.heap.size := by have := hb1.size; simp at this; omega))
            go_ret3
            exact ⟨by rw [HE.out]; rfl, hb2'⟩
      · rw [hc] at c3
        have HE : Hid (oneR ⟨kind, n, text, l⟩ left = (0, 0, 20)) := by rw [Hid, oneR, if_neg (by simp [hs]), if_neg h2, if_neg (by rw [hc]; decide), hc]
        clear hc h2
        clear hs hsn
        go_enter Tryd.func92, Tryd.ntmps92
        go_wp2_with (first
          | (go_at_call 145; refine c1.mono ?_; rintro e w1 ⟨rfl, hb1⟩; have hb1' : Below w.heap.size w w1 := hbx.trans (hb1.mono hbx.size); have hq1 := (bcell hb1).1; clear c1)
          | (go_at_call 138; refine (c3 _ (h.below hb1')).mono ?_; rintro e w2 ⟨rfl, hb2⟩; have hb2' : Below w.heap.size w w2 := hb1'.trans (hb2.mono hb1'.size); have hq2 := (bcell hb2).1; have hz1 : w.heap.size < w1.heap.size := by have := hb1.size; simp at this; omega))
        go_ret3
        exact ⟨by rw [HE.out]; rfl, hb2'⟩

end Go.Proofs.YtaemajcpgmaapaaDoor

namespace Go.Proofs.YtaemajcpgmaapaaDoor
open Go.RowKit

def toGo : List Op → Int → Int → Int × Int
  | [], _, n => if 20000 < n then (0, 3) else (n, 0)
  | o :: l, left, n => if (oneR o left).2.2 = 0 then toGo l (left - (oneR o left).1) (n + (oneR o left).2.1) else (0, (oneR o left).2.2)
/-- change.To: how many runes there are behind it; its error. -/
def toR (c : Change) : Int × Int :=
  if c.from_ < 0 ∨ 20000 < c.from_ then (0, 31) else if 2000 < c.ops.length then (0, 2) else toGo c.ops c.from_ c.from_
def R2 (r : Int × Int) : Value := .tuple #[.int .i64 r.1, .int .i64 r.2]
theorem cntN_le (s : ByteArray) : 0 ≤ cntN s ∧ cntN s ≤ 20000 := by
  unfold cntN
  split
  · omega
  · omega
theorem oneR_bd (o : Op) (left : Int) (h : (oneR o left).2.2 = 0) (hl : 0 ≤ left) (hl2 : left ≤ 20000) :
    0 ≤ (oneR o left).1 ∧ (oneR o left).1 ≤ left ∧ -20000 ≤ (oneR o left).2.1 ∧ (oneR o left).2.1 ≤ 20000 := by
  by_cases hs : shapedB o = false
  · simp [oneR, hs] at h
  · have hsn := shaped_n (by simpa using hs)
    rw [oneR, if_neg hs] at h ⊢
    by_cases h2 : o.kind = 2
    · rw [if_pos h2] at h ⊢
      split at h
      · rename_i hc
        rw [if_pos hc]
        have := cntN_le o.text
        simp only
        omega
      · rename_i hc
        exact absurd h hc
    · rw [if_neg h2] at h ⊢
      split at h
      · rename_i hc
        rw [if_pos hc]
        split at h
        · exact absurd h (by decide)
        · rename_i hlt
          rw [if_neg hlt]
          split <;> simp only <;> omega
      · rename_i hc
        exact absurd h hc

set_option maxRecDepth 100000 in
set_option maxHeartbeats 2000000 in
theorem to_any (f : Int) (vo : Value) (l : List Op) (S : Nat → Prop) (w : World) (h : Rd KO S w vo l) (hT : Tabs w) :
    Calls Tryd.prog 34 #[.agg #[.int .i64 f, vo]] w fun e w' => e = .returned (R2 (toR ⟨f, l⟩)) ∧ Below w.heap.size w w' := by
  obtain ⟨A, c, rfl, _, hr⟩ := h
  have hlen := hr.len
  by_cases hf : f < 0 ∨ 20000 < f
  · have HE : Hid (toR ⟨f, l⟩ = (0, 31)) := by rw [Hid, toR, if_pos hf]
    by_cases hf0 : f < 0
    · clear hf
      go_enter Tryd.func34, Tryd.ntmps34
      go_wp2_with fail
      go_ret2
      exact ⟨by rw [HE.out]; rfl, (Below.refl _ _).alloc (Nat.le_refl _) _⟩
    · have hf1 : 20000 < f := by omega
      clear hf
      go_enter Tryd.func34, Tryd.ntmps34
      go_wp2_with fail
      go_ret2
      exact ⟨by rw [HE.out]; rfl, (Below.refl _ _).alloc (Nat.le_refl _) _⟩
  · have hf0 : ¬ f < 0 := by omega
    have hf1 : ¬ 20000 < f := by omega
    by_cases hl : 2000 < l.length
    · have HE : Hid (toR ⟨f, l⟩ = (0, 2)) := by rw [Hid, toR, if_neg hf, if_pos hl]
      have hl' : (2000 : Int) < (l.length : Int) := by omega
      clear hf
      go_enter Tryd.func34, Tryd.ntmps34
      go_wp2_with fail
      go_ret2
      exact ⟨by rw [HE.out]; rfl, (Below.refl _ _).alloc (Nat.le_refl _) _⟩
    · have HE : Hid (toR ⟨f, l⟩ = toGo l f f) := by rw [Hid, toR, if_neg hf, if_neg hl]
      have hl' : ¬ (2000 : Int) < (l.length : Int) := by omega
      clear hf
      go_enter Tryd.func34, Tryd.ntmps34
      go_wp2_with fail
      go_quiet (fail)
      go_wp2_with fail
      go_loopg [4, 5, 32] (l.length + 1) (fun g s4 s5 s32 wr => ∃ (k : Nat) (left n : Int), k ≤ l.length ∧ l.length - k < g ∧ s4 = .int .i64 left ∧ s5 = .int .i64 n ∧ s32 = .int .i64 k ∧ 0 ≤ left ∧ left ≤ 20000 ∧ -20000 - 20000 * (k : Int) ≤ n ∧ n ≤ 20000 + 20000 * (k : Int) ∧ Below w.heap.size w wr ∧ Aside (toGo l f f = toGo (l.drop k) left n))
      case atStart => exact ⟨0, f, f, Nat.zero_le _, by omega, rfl, rfl, rfl, by omega, by omega, by omega, by omega, below_drewN ((Below.refl _ _).alloc (Nat.le_refl _) _) _, (show Aside _ from rfl)⟩
      case round =>
        obtain ⟨k, left, n, hk, hg, rfl, rfl, rfl, hl0, hl1, hn0, hn1, hb, Ad⟩ := hrel
        by_cases hlt : k < l.length
        · have hlz : (k : Int) < (l.length : Int) := by omega
          obtain ⟨b, o, A2, c2, rfl, hS, hbw, hc0, hc1, hc2, hc3, hva, hft⟩ := hr.ops k hlt
          have hd0 := (hb.cell (p := ⟨b, o + k * 4, none⟩) hbw).trans hc0
          have hd1 := (hb.cell (p := ⟨b, o + k * 4 + 1, none⟩) hbw).trans hc1
          have hd2 := (hb.cell (p := ⟨b, o + k * 4 + 2, none⟩) hbw).trans hc2
          have hd3 := (hb.cell (p := ⟨b, o + k * 4 + 3, none⟩) hbw).trans hc3
          have hbd := oneR_bd l[k] left
          have hbx : Below w.heap.size w (wr.alloc (.cells #[.int .i64 l[k].kind, .int .i64 l[k].n, .string l[k].text, .slice A2 l[k].attrs.length c2] 30)) := hb.alloc hb.size _
          have c1 := one_any l[k].kind l[k].n l[k].text _ l[k].attrs S left _ (hva.below hbx) hft (hT.below hbx) hl1
          have hop : (⟨l[k].kind, l[k].n, l[k].text, l[k].attrs⟩ : Op) = l[k] := rfl
          rw [hop] at c1
          rw [List.drop_eq_getElem_cons hlt] at Ad
          generalize l[k] = op at *
          clear hc0 hc1 hc2 hc3 hva hop hbx
          have hstep : toGo (op :: l.drop (k + 1)) left n = if (oneR op left).2.2 = 0 then toGo (l.drop (k + 1)) (left - (oneR op left).1) (n + (oneR op left).2.1) else (0, (oneR op left).2.2) := rfl
          obtain ⟨⟨tk, mo, er⟩, hr1⟩ : ∃ r, oneR op left = r := ⟨_, rfl⟩
          rw [hr1] at c1 hstep hbd
          simp only [R3] at c1 hstep hbd
          clear hr1
          by_cases he : er = 0
          · subst he
            have HM : Aside (toGo l f f = toGo (l.drop (k + 1)) (left - tk) (n + mo)) := Ad.trans (hstep.trans (if_pos rfl))
            obtain ⟨h1, h2, h3, h4⟩ := hbd rfl hl0 hl1
            clear hstep Ad hbd
            go_wp2_with (go_at_call 92; refine c1.mono ?_; rintro e w1 ⟨rfl, hb1⟩)
            go_roundg (l.length + 1 - (k + 1))
            case measure => omega
            case rel =>
              exact ⟨k + 1, left - tk, n + mo, by omega, by omega, rfl, rfl, by go_num, by omega, by omega, by omega, by omega, (hb.alloc hb.size _).trans (hb1.mono (by have := hb.size; (try simp) <;> omega)), HM⟩
          · have HM : Hid (toR ⟨f, l⟩ = (0, er)) := HE.out.trans (Ad.trans (hstep.trans (if_neg he)))
            have hne : (er == 0) = false := by simp [he]
            clear hstep Ad hbd he HE
            go_wp2_with (go_at_call 92; refine c1.mono ?_; rintro e w1 ⟨rfl, hb1⟩)
            go_ret2
            exact ⟨by rw [HM.out]; rfl, (hb.alloc hb.size _).trans (hb1.mono (by have := hb.size; (try simp) <;> omega))⟩
        · have hlz : ¬ (k : Int) < (l.length : Int) := by omega
          have HM : Hid (toR ⟨f, l⟩ = if 20000 < n then (0, 3) else (n, 0)) := by
            rw [Hid, HE.out, Ad, List.drop_eq_nil_of_le (by omega)]; rfl
          clear Ad HE
          by_cases hn : 20000 < n
          · rw [if_pos hn] at HM
            go_wp2
            go_ret2
            exact ⟨by rw [HM.out]; rfl, hb⟩
          · rw [if_neg hn] at HM
            go_wp2
            go_ret2
            exact ⟨by rw [HM.out]; rfl, hb⟩

end Go.Proofs.YtaemajcpgmaapaaDoor

namespace Go.Proofs.YtaemajcpgmaapaaDoor
open Go.RowKit

set_option maxHeartbeats 2000000 in
theorem equal_q (v1 v2 : Value) (l1 l2 : List Attr) (S1 S2 : Nat → Prop) (w : World) (h1 : Rd KA S1 w v1 l1) (h2 : Rd KA S2 w v2 l2) :
    Calls Tryd.prog 147 #[v1, v2] w fun e w' => e = .returned (.bool (attrsEq l1 l2)) ∧ ∃ m, w' = w.drewN m := by
  obtain ⟨A1, c1, rfl, _, hr1⟩ := h1
  obtain ⟨A2, c2, rfl, _, hr2⟩ := h2
  have hlen1 := hr1.len
  have hlen2 := hr2.len
  by_cases hL : l1.length = l2.length
  · have HL := Lib.hid hL
    clear hL
    have hL2 : (l1.length : Int) ≤ l2.length := by have := HL.out; omega
    have hL3 : (l2.length : Int) ≤ l1.length := by have := HL.out; omega
    have hne : ((l1.length : Int) != (l2.length : Int)) = false := by have := HL.out; simp [this]
    go_enter Tryd.func147, Tryd.ntmps147
    go_wp2_with fail
    go_loopg [13] (l1.length + 1) (fun g s13 wr => ∃ k : Nat, k ≤ l1.length ∧ l1.length - k < g ∧ s13 = .int .i64 k ∧ (∃ q, wr = w.drewN q) ∧ Aside (∀ j (hj : j < l1.length) (hj2 : j < l2.length), j < k → l1[j] = l2[j]))
    case atStart => exact ⟨0, Nat.zero_le _, by omega, rfl, ⟨0, rfl⟩, (show Aside _ from fun j h _ hj => absurd hj (Nat.not_lt_zero _))⟩
    case round =>
      obtain ⟨k, hk, hg, rfl, ⟨q, rfl⟩, Ad⟩ := hrel
      by_cases hlt : k < l1.length
      · have hlz : (k : Int) < (l1.length : Int) := by omega
        have hlz2 : (k : Int) < (l2.length : Int) := by omega
        obtain ⟨b1, o1, rfl, _, hbw1, hc0, hc1, _, _⟩ := hr1.attr k hlt
        obtain ⟨b2, o2, rfl, _, hbw2, hp0, hp1, _, _⟩ := hr2.attr k (by omega)
        have hd0 := hc0
        have hd1 := hc1
        have hq0 := hp0
        have hq1 := hp1
        clear hc0 hc1 hp0 hp1
        have hsame := attrSame_eq l1[k] l2[k]
        have hneq := neq_attr l1[k].key l1[k].val l2[k].key l2[k].val
        have hgd : ∀ (x y : Operand) (w : World), (eqGuard .neq 102 x y (.agg #[.string l1[k].key, .string l1[k].val]) (.agg #[.string l2[k].key, .string l2[k].val])).run Tryd.prog w = .ok () w := fun x y w => run_eqGuard_agg w _ _ x y _ _ attr_guard
        by_cases hs : l1[k] = l2[k]
        · rw [hsame, decide_eq_true hs] at hneq
          have HS : Aside (∀ j (hj : j < l1.length) (hj2 : j < l2.length), j < k + 1 → l1[j] = l2[j]) := fun j hj hj2 hjk => by
            by_cases e : j = k
            · subst e; exact hs
            · exact Ad j hj hj2 (by omega)
          clear hsame hs Ad
          generalize l1[k].key = ka at hd0 hneq hgd
          generalize l1[k].val = vala at hd1 hneq hgd
          generalize l2[k].key = kb at hq0 hneq hgd
          generalize l2[k].val = valb at hq1 hneq hgd
          go_wp2_with fail
          go_quiet (fail)
          go_wp2
          go_roundg (l1.length + 1 - (k + 1))
          case measure => omega
          case rel => exact ⟨k + 1, by omega, by omega, by go_num, (by first | exact ⟨_, rfl⟩ | exact ⟨_, World.drewN_drewN ..⟩), HS⟩
        · rw [hsame, decide_eq_false hs] at hneq
          have HS : Hid (attrsEq l1 l2 = false) := by
            refine decide_eq_false fun e => hs ?_
            subst e; rfl
          clear hsame hs Ad
          generalize l1[k].key = ka at hd0 hneq hgd
          generalize l1[k].val = vala at hd1 hneq hgd
          generalize l2[k].key = kb at hq0 hneq hgd
          generalize l2[k].val = valb at hq1 hneq hgd
          go_wp2_with fail
          go_quiet (fail)
          go_wp2
          go_ret
          exact ⟨by rw [HS.out]; rfl, (by first | exact ⟨_, rfl⟩ | exact ⟨_, World.drewN_drewN ..⟩)⟩
      · have hlz : ¬ (k : Int) < (l1.length : Int) := by omega
        have HS : Hid (attrsEq l1 l2 = true) := decide_eq_true (List.ext_getElem HL.out fun j h1 h2 => Ad j h1 h2 (by omega))
        clear Ad
        go_wp2
        go_ret
        exact ⟨by rw [HS.out]; rfl, _, rfl⟩
  · have hne : ((l1.length : Int) != (l2.length : Int)) = true := by simp; omega
    have HS : Hid (attrsEq l1 l2 = false) := decide_eq_false fun e => hL (by rw [e])
    clear hL
    go_enter Tryd.func147, Tryd.ntmps147
    go_wp2_with fail
    go_ret
    exact ⟨by rw [HS.out]; rfl, 0, rfl⟩

theorem same_q (v1 v2 : Value) (l1 l2 : List Attr) (S1 S2 : Nat → Prop) (w : World) (h1 : Rd KA S1 w v1 l1) (h2 : Rd KA S2 w v2 l2) :
    Calls Tryd.prog 98 #[v1, v2] w fun e w' => e = .returned (.bool (attrsEq l1 l2)) ∧ ∃ m, w' = w.drewN m := by
  have c1 := equal_q v1 v2 l1 l2 S1 S2 w h1 h2
  go_enter Tryd.func98, Tryd.ntmps98
  go_wp2_with (go_at_call 147; (with_reducible refine c1.mono ?_); rintro e w' ⟨rfl, hb2⟩)
  go_ret
  exact ⟨rfl, hb2⟩

end Go.Proofs.YtaemajcpgmaapaaDoor
