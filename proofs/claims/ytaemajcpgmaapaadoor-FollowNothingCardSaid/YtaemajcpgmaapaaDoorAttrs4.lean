/- attrs: what is left of a change behind another one; the others by merge. -/
import Derived.Test.YtaemajcpgmaapaaDoorMerge
namespace Go.Proofs.YtaemajcpgmaapaaDoor
open Go.RowKit

def zeroA : Attr := ⟨⟨#[]⟩, ⟨#[]⟩⟩
def pkFollow (first : Bool) (x y : Option Attr) : Attr × Bool := match y with
  | none => (zeroA, false)
  | some b => if x.isSome && !first then (zeroA, false) else (b, true)
def pkCompose (x y : Option Attr) : Attr × Bool := match y with
  | some b => (b, true)
  | none => (x.getD zeroA, true)
def pkApply (x y : Option Attr) : Attr × Bool := match y with
  | some b => (b, !b.val.toList.isEmpty)
  | none => (x.getD zeroA, true)
def pkInvert (x y : Option Attr) : Attr × Bool := match y with
  | none => (zeroA, false)
  | some b => match x with
    | none => (⟨b.key, ⟨#[]⟩⟩, !b.val.toList.isEmpty)
    | some a => (a, !(a.val.toList == b.val.toList))

theorem fits_zero : Fits zeroA.key ∧ Fits zeroA.val := by constructor <;> (show (0 : Nat) ≤ _; omega)
theorem pkFollow_fits (first : Bool) : PickFits (pkFollow first) := by
  intro x y _ hy
  unfold pkFollow
  cases y with
  | none => exact fits_zero
  | some b =>
    simp only
    split
    · exact fits_zero
    · exact hy b rfl
theorem getD_fits {x : Option Attr} (hx : ∀ a, x = some a → Fits a.key ∧ Fits a.val) : Fits (x.getD zeroA).key ∧ Fits (x.getD zeroA).val := by
  cases x with
  | none => exact fits_zero
  | some a => exact hx a rfl
theorem pkCompose_fits : PickFits pkCompose := by
  intro x y hx hy
  cases y with
  | none => exact getD_fits hx
  | some b => exact hy b rfl
theorem pkApply_fits : PickFits pkApply := by
  intro x y hx hy
  cases y with
  | none => exact getD_fits hx
  | some b => exact hy b rfl
theorem pkInvert_fits : PickFits pkInvert := by
  intro x y hx hy
  cases y with
  | none => exact fits_zero
  | some b =>
    cases x with
    | none => exact ⟨(hy b rfl).1, fits_zero.1⟩
    | some a => exact hx a rfl

set_option maxHeartbeats 1000000 in
theorem pickFollow (cb : Nat) (first : Bool) (w0 : World) (hc : w0.cell? ⟨cb, 0, none⟩ = some (.bool first)) : PickAt 141 #[.pointer (some ⟨cb, 0, none⟩)] w0 (pkFollow first) := by
  intro W px py x y hb hx hy hxy
  have hcb : cb < w0.heap.size := World.block_lt_of_cell? _ _ hc
  have hc' := (hb.cell (p := ⟨cb, 0, none⟩) hcb).trans hc
  clear hc
  cases y with
  | none =>
    obtain rfl : py = _ := hy
    cases x with
    | none => simp at hxy
    | some a =>
      obtain ⟨b, o, rfl, h1, h2, h3⟩ := hx
      go_enter Tryd.func141, Tryd.ntmps141
      go_wp2
      exact bodyPost_ret (v := .tuple #[.agg #[.string ⟨#[]⟩, .string ⟨#[]⟩], .bool false]) (by simp [results, Tryd.results141, go_sem]) rfl ⟨rfl, (Below.refl _ _).alloc (Nat.le_refl _) _⟩
  | some y =>
    obtain ⟨b, o, rfl, h1, h2, h3⟩ := hy
    cases x with
    | none =>
      obtain rfl : px = _ := hx
      have hcb' : cb < W.heap.size := by have := hb.size; omega
      go_enter Tryd.func141, Tryd.ntmps141
      go_wp2
      exact bodyPost_ret (v := .tuple #[.agg #[.string y.key, .string y.val], .bool true]) (by simp [results, Tryd.results141, go_sem]) rfl ⟨rfl, (Below.refl _ _).alloc (Nat.le_refl _) _⟩
    | some x =>
      obtain ⟨b2, o2, rfl, _, _, _⟩ := hx
      have hcb' : cb < W.heap.size := by have := hb.size; omega
      cases first
      · go_enter Tryd.func141, Tryd.ntmps141
        go_wp2
        exact bodyPost_ret (v := .tuple #[.agg #[.string ⟨#[]⟩, .string ⟨#[]⟩], .bool false]) (by simp [results, Tryd.results141, go_sem]) rfl ⟨rfl, (Below.refl _ _).alloc (Nat.le_refl _) _⟩
      · go_enter Tryd.func141, Tryd.ntmps141
        go_wp2
        exact bodyPost_ret (v := .tuple #[.agg #[.string y.key, .string y.val], .bool true]) (by simp [results, Tryd.results141, go_sem]) rfl ⟨rfl, (Below.refl _ _).alloc (Nat.le_refl _) _⟩

set_option maxHeartbeats 1000000 in
theorem pickCompose (w0 : World) : PickAt 182 #[] w0 pkCompose := by
  intro W px py x y hb hx hy hxy
  cases y with
  | none =>
    obtain rfl : py = _ := hy
    cases x with
    | none => simp at hxy
    | some x =>
      obtain ⟨b, o, rfl, h1, h2, h3⟩ := hx
      go_enter Tryd.func182, Tryd.ntmps182
      go_wp2
      exact bodyPost_ret (v := .tuple #[.agg #[.string x.key, .string x.val], .bool true]) (by simp [results, Tryd.results182, go_sem]) rfl ⟨rfl, (Below.refl _ _).alloc (Nat.le_refl _) _⟩
  | some y =>
    obtain ⟨b, o, rfl, h1, h2, h3⟩ := hy
    have hp : ∃ p, px = .pointer p := by
      cases x with
      | none => exact ⟨_, hx⟩
      | some x => obtain ⟨_, _, e, _⟩ := hx; exact ⟨_, e⟩
    obtain ⟨p, rfl⟩ := hp
    clear hx
    go_enter Tryd.func182, Tryd.ntmps182
    go_wp2
    exact bodyPost_ret (v := .tuple #[.agg #[.string y.key, .string y.val], .bool true]) (by simp [results, Tryd.results182, go_sem]) rfl ⟨rfl, (Below.refl _ _).alloc (Nat.le_refl _) _⟩

set_option maxHeartbeats 1000000 in
theorem pickApply (w0 : World) : PickAt 177 #[] w0 pkApply := by
  intro W px py x y hb hx hy hxy
  cases y with
  | none =>
    obtain rfl : py = _ := hy
    cases x with
    | none => simp at hxy
    | some x =>
      obtain ⟨b, o, rfl, h1, h2, h3⟩ := hx
      go_enter Tryd.func177, Tryd.ntmps177
      go_wp2
      exact bodyPost_ret (v := .tuple #[.agg #[.string x.key, .string x.val], .bool true]) (by simp [results, Tryd.results177, go_sem]) rfl ⟨rfl, (Below.refl _ _).alloc (Nat.le_refl _) _⟩
  | some y =>
    obtain ⟨b, o, rfl, h1, h2, h3⟩ := hy
    have hp : ∃ p, px = .pointer p := by
      cases x with
      | none => exact ⟨_, hx⟩
      | some x => obtain ⟨_, _, e, _⟩ := hx; exact ⟨_, e⟩
    obtain ⟨p, rfl⟩ := hp
    clear hx
    have e : Hid (pkApply x (some y) = (y, !y.val.toList.isEmpty)) := rfl
    go_enter Tryd.func177, Tryd.ntmps177
    go_wp2_with fail
    go_region
    all_goals
      go_wp2
      exact bodyPost_ret (v := .tuple #[.agg #[.string y.key, .string y.val], .bool (!y.val.toList.isEmpty)]) (by simp [results, Tryd.results177, go_sem]) rfl ⟨rfl, (by repeat (first | exact Below.refl _ _ | assumption | refine Below.drew ?_ | refine below_drewN ?_ _ | refine Below.alloc ?_ (by (try simp) <;> omega) _ | refine Below.setCell ?_ (by (try simp) <;> omega) _))⟩

set_option maxHeartbeats 1000000 in
theorem pickInvert (w0 : World) : PickAt 178 #[] w0 pkInvert := by
  intro W px py x y hb hx hy hxy
  cases y with
  | none =>
    obtain rfl : py = _ := hy
    cases x with
    | none => simp at hxy
    | some x =>
      obtain ⟨b, o, rfl, h1, h2, h3⟩ := hx
      go_enter Tryd.func178, Tryd.ntmps178
      go_wp2
      exact bodyPost_ret (v := .tuple #[.agg #[.string ⟨#[]⟩, .string ⟨#[]⟩], .bool false]) (by simp [results, Tryd.results178, go_sem]) rfl ⟨rfl, (by repeat (first | exact Below.refl _ _ | assumption | refine Below.drew ?_ | refine below_drewN ?_ _ | refine Below.alloc ?_ (by (try simp) <;> omega) _ | refine Below.setCell ?_ (by (try simp) <;> omega) _))⟩
  | some y =>
    obtain ⟨b, o, rfl, h1, h2, h3⟩ := hy
    cases x with
    | none =>
      obtain rfl : px = _ := hx
      go_enter Tryd.func178, Tryd.ntmps178
      go_wp2_with fail
      go_region
      all_goals
        go_wp2
        exact bodyPost_ret (v := .tuple #[.agg #[.string y.key, .string ⟨#[]⟩], .bool (!y.val.toList.isEmpty)]) (by simp [results, Tryd.results178, go_sem]) rfl ⟨rfl, (by repeat (first | exact Below.refl _ _ | assumption | refine Below.drew ?_ | refine below_drewN ?_ _ | refine Below.alloc ?_ (by (try simp) <;> omega) _ | refine Below.setCell ?_ (by (try simp) <;> omega) _))⟩
    | some x =>
      obtain ⟨b2, o2, rfl, h4, h5, h6⟩ := hx
      go_enter Tryd.func178, Tryd.ntmps178
      go_wp2_with fail
      go_region
      all_goals
        go_wp2
        exact bodyPost_ret (v := .tuple #[.agg #[.string x.key, .string x.val], .bool (!(x.val.toList == y.val.toList))]) (by simp [results, Tryd.results178, go_sem]) rfl ⟨rfl, (by repeat (first | exact Below.refl _ _ | assumption | refine Below.drew ?_ | refine below_drewN ?_ _ | refine Below.alloc ?_ (by (try simp) <;> omega) _ | refine Below.setCell ?_ (by (try simp) <;> omega) _))⟩

/-! ### The four functions -/
theorem chOk_len {l : List Attr} (h : chErr l = 0) : l.length ≤ 8 := by
  by_cases hk : 8 < l.length
  · have : chErr l = 20 := chErr_bad 8 hk (by rw [atOk_eq 8 hk]; simp)
    omega
  · omega
theorem rt_ch {l : List Attr} (h : rtErr l = 0) : chErr l = 0 := by
  unfold rtErr at h
  split at h
  · omega
  · exact h

theorem few_yes (v : Value) (l : List Attr) (lo : Nat) (w : World) (h : OwnA lo w v l) (h8 : l.length ≤ 8) :
    Calls Tryd.prog 176 #[v] w fun e w' => e = .returned (.tuple #[v, .int .i64 0]) ∧ w = w' := by
  obtain ⟨A, c, rfl, _⟩ := h.rd
  have hd : decide ((8 : Int) < (l.length : Int)) = false := by simp; omega
  go_enter Tryd.func176, Tryd.ntmps176
  go_wp2
  go_ret2
  exact ⟨rfl, rfl⟩
theorem few_no (v : Value) (l : List Attr) (lo : Nat) (w : World) (h : OwnA lo w v l) (h8 : ¬ l.length ≤ 8) :
    Calls Tryd.prog 176 #[v] w fun e w' => e = .returned (.tuple #[.slice none 0 0, .int .i64 3]) ∧ w = w' := by
  obtain ⟨A, c, rfl, _⟩ := h.rd
  have hd : decide ((8 : Int) < (l.length : Int)) = true := by simp; omega
  go_enter Tryd.func176, Tryd.ntmps176
  go_wp2
  go_ret2
  exact ⟨rfl, rfl⟩

theorem chErr_or (l : List Attr) : chErr l = 0 ∨ chErr l = 20 := by unfold chErr; split <;> simp
theorem rtErr_or (l : List Attr) : rtErr l = 0 ∨ rtErr l = 20 := by unfold rtErr; split; · simp
                                                                    · exact chErr_or l
/-- What attrs.Follow answers. -/
def flErr (a b : List Attr) : Int := if chErr a = 0 ∧ chErr b = 0 then 0 else 20
def flL (a b : List Attr) (first : Bool) : List Attr := if flErr a b = 0 then mergeL (pkFollow first) a b else []
/-- attrs.Invert -/
def ivErr (a b : List Attr) : Int := if rtErr a = 0 ∧ chErr b = 0 then 0 else 20
def ivL (a b : List Attr) : List Attr := if ivErr a b = 0 then mergeL pkInvert a b else []
/-- attrs.Apply -/
def apErr (a b : List Attr) : Int := if rtErr a = 0 ∧ chErr b = 0 then if (mergeL pkApply a b).length ≤ 8 then 0 else 3 else 20
def apL (a b : List Attr) : List Attr := if apErr a b = 0 then mergeL pkApply a b else []
/-- attrs.Compose -/
def cpErr (a b : List Attr) : Int := if chErr a = 0 ∧ chErr b = 0 then if (mergeL pkCompose a b).length ≤ 8 then 0 else 3 else 20
def cpL (a b : List Attr) : List Attr := if cpErr a b = 0 then mergeL pkCompose a b else []

set_option maxHeartbeats 1000000 in
theorem follow_attrs (v1 v2 : Value) (a b : List Attr) (S1 S2 : Nat → Prop) (first : Bool) (w : World) (h1 : Rd KA S1 w v1 a) (h2 : Rd KA S2 w v2 b) :
    Calls Tryd.prog 82 #[v1, v2, .bool first] w fun e w' => ∃ v, e = .returned (.tuple #[v, .int .i64 (flErr a b)]) ∧ Below w.heap.size w w' ∧ OwnA w.heap.size w' v (flL a b first) := by
  have hbx : Below w.heap.size w (w.alloc (.cells #[.bool first] 4)) := (Below.refl _ _).alloc (Nat.le_refl _) _
  have c1 := change_any v1 a S1 _ (h1.below hbx)
  rcases chErr_or a with ha | ha
  · rw [ha] at c1
    rcases chErr_or b with hbb | hbb
    · have HE : Hid (flErr a b = 0) := by rw [Hid, flErr, if_pos ⟨ha, hbb⟩]
      have HL : Hid (flL a b first = mergeL (pkFollow first) a b) := by rw [Hid, flL, if_pos HE.out]
      have n1 := chOk_len ha
      have n2 := chOk_len hbb
      clear ha
      go_enter Tryd.func82, Tryd.ntmps82
      go_wp2_with fail
      refine c1.mono ?_
      rintro e w1 ⟨rfl, hb1⟩
      have hb1' : Below w.heap.size w w1 := hbx.trans (hb1.mono hbx.size)
      have c2 := change_any v2 b S2 _ (h2.below hb1')
      rw [hbb] at c2
      clear hbb
      go_wp2_with fail
      refine c2.mono ?_
      rintro e w2 ⟨rfl, hb2⟩
      have hb2' : Below w.heap.size w w2 := hb1'.trans (hb2.mono hb1'.size)
      have hbox : w2.cell? ⟨w.heap.size, 0, none⟩ = some (.bool first) := by
        have e1 := (hb1.trans (hb2.mono hb1.size)).cell (p := ⟨w.heap.size, 0, none⟩) (by simp)
        rw [e1]; simp
      have c3 := merge_any v1 v2 a b S1 S2 141 #[.pointer (some ⟨w.heap.size, 0, none⟩)] (pkFollow first) w2 (h1.below hb2') (h2.below hb2') n1 n2 (pickFollow w.heap.size first w2 hbox) (enters_of Tryd.func141 (by kernel_rfl) rfl) (pkFollow_fits first)
      go_wp2_with fail
      refine c3.mono ?_
      rintro e w3 ⟨v3, rfl, hb3, ho3⟩
      have hb3' : Below w.heap.size w w3 := hb2'.trans (hb3.mono hb2'.size)
      go_wp2_with fail
      go_ret2
      exact ⟨v3, by rw [HE.out]; rfl, hb3', by rw [HL.out]; exact ho3.mono hb2'.size⟩
    · have HE : Hid (flErr a b = 20) := by rw [Hid, flErr, if_neg (by omega)]
      have HL : Hid (flL a b first = []) := by rw [Hid, flL, if_neg (by rw [HE.out]; decide)]
      clear ha
      go_enter Tryd.func82, Tryd.ntmps82
      go_wp2_with fail
      refine c1.mono ?_
      rintro e w1 ⟨rfl, hb1⟩
      have hb1' : Below w.heap.size w w1 := hbx.trans (hb1.mono hbx.size)
      have c2 := change_any v2 b S2 _ (h2.below hb1')
      rw [hbb] at c2
      clear hbb
      go_wp2_with fail
      refine c2.mono ?_
      rintro e w2 ⟨rfl, hb2⟩
      go_wp2_with fail
      go_ret2
      exact ⟨_, by rw [HE.out]; rfl, hb1'.trans (hb2.mono hb1'.size), by rw [HL.out]; exact OwnA.nil _ _⟩
  · have HE : Hid (flErr a b = 20) := by rw [Hid, flErr, if_neg (by omega)]
    have HL : Hid (flL a b first = []) := by rw [Hid, flL, if_neg (by rw [HE.out]; decide)]
    rw [ha] at c1
    clear ha
    go_enter Tryd.func82, Tryd.ntmps82
    go_wp2_with fail
    refine c1.mono ?_
    rintro e w1 ⟨rfl, hb1⟩
    have hb1' : Below w.heap.size w w1 := hbx.trans (hb1.mono hbx.size)
    go_wp2_with fail
    go_ret2
    exact ⟨_, by rw [HE.out]; rfl, hb1', by rw [HL.out]; exact OwnA.nil _ _⟩

set_option maxHeartbeats 1000000 in
theorem invert_attrs (v1 v2 : Value) (a b : List Attr) (S1 S2 : Nat → Prop) (w : World) (h1 : Rd KA S1 w v1 a) (h2 : Rd KA S2 w v2 b) :
    Calls Tryd.prog 149 #[v1, v2] w fun e w' => ∃ v, e = .returned (.tuple #[v, .int .i64 (ivErr a b)]) ∧ Below w.heap.size w w' ∧ OwnA w.heap.size w' v (ivL a b) := by
  have hbx : Below w.heap.size w w := Below.refl _ _
  have c1 := right_any v1 a S1 _ (h1.below hbx)
  rcases rtErr_or a with ha | ha
  · rw [ha] at c1
    rcases chErr_or b with hbb | hbb
    · have HE : Hid (ivErr a b = 0) := by rw [Hid, ivErr, if_pos ⟨ha, hbb⟩]
      have HL : Hid (ivL a b = mergeL (pkInvert) a b) := by rw [Hid, ivL, if_pos HE.out]
      have n1 := chOk_len (rt_ch ha)
      have n2 := chOk_len hbb
      clear ha
      go_enter Tryd.func149, Tryd.ntmps149
      go_wp2_with fail
      refine c1.mono ?_
      rintro e w1 ⟨rfl, hb1⟩
      have hb1' : Below w.heap.size w w1 := hbx.trans (hb1.mono hbx.size)
      have c2 := change_any v2 b S2 _ (h2.below hb1')
      rw [hbb] at c2
      clear hbb
      go_wp2_with fail
      refine c2.mono ?_
      rintro e w2 ⟨rfl, hb2⟩
      have hb2' : Below w.heap.size w w2 := hb1'.trans (hb2.mono hb1'.size)
      have c3 := merge_any v1 v2 a b S1 S2 178 #[] (pkInvert) w2 (h1.below hb2') (h2.below hb2') n1 n2 (pickInvert w2) (enters_of Tryd.func178 (by kernel_rfl) rfl) (pkInvert_fits)
      go_wp2_with fail
      refine c3.mono ?_
      rintro e w3 ⟨v3, rfl, hb3, ho3⟩
      have hb3' : Below w.heap.size w w3 := hb2'.trans (hb3.mono hb2'.size)
      go_wp2_with fail
      go_ret2
      exact ⟨v3, by rw [HE.out]; rfl, hb3', by rw [HL.out]; exact ho3.mono hb2'.size⟩
    · have HE : Hid (ivErr a b = 20) := by rw [Hid, ivErr, if_neg (by omega)]
      have HL : Hid (ivL a b = []) := by rw [Hid, ivL, if_neg (by rw [HE.out]; decide)]
      clear ha
      go_enter Tryd.func149, Tryd.ntmps149
      go_wp2_with fail
      refine c1.mono ?_
      rintro e w1 ⟨rfl, hb1⟩
      have hb1' : Below w.heap.size w w1 := hbx.trans (hb1.mono hbx.size)
      have c2 := change_any v2 b S2 _ (h2.below hb1')
      rw [hbb] at c2
      clear hbb
      go_wp2_with fail
      refine c2.mono ?_
      rintro e w2 ⟨rfl, hb2⟩
      go_wp2_with fail
      go_ret2
      exact ⟨_, by rw [HE.out]; rfl, hb1'.trans (hb2.mono hb1'.size), by rw [HL.out]; exact OwnA.nil _ _⟩
  · have HE : Hid (ivErr a b = 20) := by rw [Hid, ivErr, if_neg (by omega)]
    have HL : Hid (ivL a b = []) := by rw [Hid, ivL, if_neg (by rw [HE.out]; decide)]
    rw [ha] at c1
    clear ha
    go_enter Tryd.func149, Tryd.ntmps149
    go_wp2_with fail
    refine c1.mono ?_
    rintro e w1 ⟨rfl, hb1⟩
    have hb1' : Below w.heap.size w w1 := hbx.trans (hb1.mono hbx.size)
    go_wp2_with fail
    go_ret2
    exact ⟨_, by rw [HE.out]; rfl, hb1', by rw [HL.out]; exact OwnA.nil _ _⟩

set_option maxHeartbeats 1000000 in
theorem apply_attrs (v1 v2 : Value) (a b : List Attr) (S1 S2 : Nat → Prop) (w : World) (h1 : Rd KA S1 w v1 a) (h2 : Rd KA S2 w v2 b) :
    Calls Tryd.prog 148 #[v1, v2] w fun e w' => ∃ v, e = .returned (.tuple #[v, .int .i64 (apErr a b)]) ∧ Below w.heap.size w w' ∧ OwnA w.heap.size w' v (apL a b) := by
  have hbx : Below w.heap.size w w := Below.refl _ _
  have c1 := right_any v1 a S1 _ (h1.below hbx)
  rcases rtErr_or a with ha | ha
  · rw [ha] at c1
    rcases chErr_or b with hbb | hbb
    · by_cases h8 : (mergeL (pkApply) a b).length ≤ 8
      · have HE : Hid (apErr a b = 0) := by rw [Hid, apErr, if_pos ⟨ha, hbb⟩, if_pos h8]
        have HL : Hid (apL a b = mergeL (pkApply) a b) := by rw [Hid, apL, if_pos HE.out]
        have n1 := chOk_len (rt_ch ha)
        have n2 := chOk_len hbb
        clear ha
        go_enter Tryd.func148, Tryd.ntmps148
        go_wp2_with fail
        refine c1.mono ?_
        rintro e w1 ⟨rfl, hb1⟩
        have hb1' : Below w.heap.size w w1 := hbx.trans (hb1.mono hbx.size)
        have c2 := change_any v2 b S2 _ (h2.below hb1')
        rw [hbb] at c2
        clear hbb
        go_wp2_with fail
        refine c2.mono ?_
        rintro e w2 ⟨rfl, hb2⟩
        have hb2' : Below w.heap.size w w2 := hb1'.trans (hb2.mono hb1'.size)
        have c3 := merge_any v1 v2 a b S1 S2 177 #[] (pkApply) w2 (h1.below hb2') (h2.below hb2') n1 n2 (pickApply w2) (enters_of Tryd.func177 (by kernel_rfl) rfl) (pkApply_fits)
        go_wp2_with fail
        refine c3.mono ?_
        rintro e w3 ⟨v3, rfl, hb3, ho3⟩
        have hb3' : Below w.heap.size w w3 := hb2'.trans (hb3.mono hb2'.size)
        have c4 := few_yes v3 _ _ w3 ho3 h8
        go_wp2_with fail
        refine c4.mono ?_
        rintro e w4 ⟨rfl, rfl⟩
        go_wp2_with fail
        go_ret2
        exact ⟨v3, by rw [HE.out]; rfl, hb3', by rw [HL.out]; exact ho3.mono hb2'.size⟩
      · have HE : Hid (apErr a b = 3) := by rw [Hid, apErr, if_pos ⟨ha, hbb⟩, if_neg h8]
        have HL : Hid (apL a b = []) := by rw [Hid, apL, if_neg (by rw [HE.out]; decide)]
        have n1 := chOk_len (rt_ch ha)
        have n2 := chOk_len hbb
        clear ha
        go_enter Tryd.func148, Tryd.ntmps148
        go_wp2_with fail
        refine c1.mono ?_
        rintro e w1 ⟨rfl, hb1⟩
        have hb1' : Below w.heap.size w w1 := hbx.trans (hb1.mono hbx.size)
        have c2 := change_any v2 b S2 _ (h2.below hb1')
        rw [hbb] at c2
        clear hbb
        go_wp2_with fail
        refine c2.mono ?_
        rintro e w2 ⟨rfl, hb2⟩
        have hb2' : Below w.heap.size w w2 := hb1'.trans (hb2.mono hb1'.size)
        have c3 := merge_any v1 v2 a b S1 S2 177 #[] (pkApply) w2 (h1.below hb2') (h2.below hb2') n1 n2 (pickApply w2) (enters_of Tryd.func177 (by kernel_rfl) rfl) (pkApply_fits)
        go_wp2_with fail
        refine c3.mono ?_
        rintro e w3 ⟨v3, rfl, hb3, ho3⟩
        have hb3' : Below w.heap.size w w3 := hb2'.trans (hb3.mono hb2'.size)
        have c4 := few_no v3 _ _ w3 ho3 h8
        go_wp2_with fail
        refine c4.mono ?_
        rintro e w4 ⟨rfl, rfl⟩
        go_wp2_with fail
        go_ret2
        exact ⟨_, by rw [HE.out]; rfl, hb3', by rw [HL.out]; exact OwnA.nil _ _⟩
    · have HE : Hid (apErr a b = 20) := by rw [Hid, apErr, if_neg (by omega)]
      have HL : Hid (apL a b = []) := by rw [Hid, apL, if_neg (by rw [HE.out]; decide)]
      clear ha
      go_enter Tryd.func148, Tryd.ntmps148
      go_wp2_with fail
      refine c1.mono ?_
      rintro e w1 ⟨rfl, hb1⟩
      have hb1' : Below w.heap.size w w1 := hbx.trans (hb1.mono hbx.size)
      have c2 := change_any v2 b S2 _ (h2.below hb1')
      rw [hbb] at c2
      clear hbb
      go_wp2_with fail
      refine c2.mono ?_
      rintro e w2 ⟨rfl, hb2⟩
      go_wp2_with fail
      go_ret2
      exact ⟨_, by rw [HE.out]; rfl, hb1'.trans (hb2.mono hb1'.size), by rw [HL.out]; exact OwnA.nil _ _⟩
  · have HE : Hid (apErr a b = 20) := by rw [Hid, apErr, if_neg (by omega)]
    have HL : Hid (apL a b = []) := by rw [Hid, apL, if_neg (by rw [HE.out]; decide)]
    rw [ha] at c1
    clear ha
    go_enter Tryd.func148, Tryd.ntmps148
    go_wp2_with fail
    refine c1.mono ?_
    rintro e w1 ⟨rfl, hb1⟩
    have hb1' : Below w.heap.size w w1 := hbx.trans (hb1.mono hbx.size)
    go_wp2_with fail
    go_ret2
    exact ⟨_, by rw [HE.out]; rfl, hb1', by rw [HL.out]; exact OwnA.nil _ _⟩

set_option maxHeartbeats 1000000 in
theorem compose_attrs (v1 v2 : Value) (a b : List Attr) (S1 S2 : Nat → Prop) (w : World) (h1 : Rd KA S1 w v1 a) (h2 : Rd KA S2 w v2 b) :
    Calls Tryd.prog 162 #[v1, v2] w fun e w' => ∃ v, e = .returned (.tuple #[v, .int .i64 (cpErr a b)]) ∧ Below w.heap.size w w' ∧ OwnA w.heap.size w' v (cpL a b) := by
  have hbx : Below w.heap.size w w := Below.refl _ _
  have c1 := change_any v1 a S1 _ (h1.below hbx)
  rcases chErr_or a with ha | ha
  · rw [ha] at c1
    rcases chErr_or b with hbb | hbb
    · by_cases h8 : (mergeL (pkCompose) a b).length ≤ 8
      · have HE : Hid (cpErr a b = 0) := by rw [Hid, cpErr, if_pos ⟨ha, hbb⟩, if_pos h8]
        have HL : Hid (cpL a b = mergeL (pkCompose) a b) := by rw [Hid, cpL, if_pos HE.out]
        have n1 := chOk_len ha
        have n2 := chOk_len hbb
        clear ha
        go_enter Tryd.func162, Tryd.ntmps162
        go_wp2_with fail
        refine c1.mono ?_
        rintro e w1 ⟨rfl, hb1⟩
        have hb1' : Below w.heap.size w w1 := hbx.trans (hb1.mono hbx.size)
        have c2 := change_any v2 b S2 _ (h2.below hb1')
        rw [hbb] at c2
        clear hbb
        go_wp2_with fail
        refine c2.mono ?_
        rintro e w2 ⟨rfl, hb2⟩
        have hb2' : Below w.heap.size w w2 := hb1'.trans (hb2.mono hb1'.size)
        have c3 := merge_any v1 v2 a b S1 S2 182 #[] (pkCompose) w2 (h1.below hb2') (h2.below hb2') n1 n2 (pickCompose w2) (enters_of Tryd.func182 (by kernel_rfl) rfl) (pkCompose_fits)
        go_wp2_with fail
        refine c3.mono ?_
        rintro e w3 ⟨v3, rfl, hb3, ho3⟩
        have hb3' : Below w.heap.size w w3 := hb2'.trans (hb3.mono hb2'.size)
        have c4 := few_yes v3 _ _ w3 ho3 h8
        go_wp2_with fail
        refine c4.mono ?_
        rintro e w4 ⟨rfl, rfl⟩
        go_wp2_with fail
        go_ret2
        exact ⟨v3, by rw [HE.out]; rfl, hb3', by rw [HL.out]; exact ho3.mono hb2'.size⟩
      · have HE : Hid (cpErr a b = 3) := by rw [Hid, cpErr, if_pos ⟨ha, hbb⟩, if_neg h8]
        have HL : Hid (cpL a b = []) := by rw [Hid, cpL, if_neg (by rw [HE.out]; decide)]
        have n1 := chOk_len ha
        have n2 := chOk_len hbb
        clear ha
        go_enter Tryd.func162, Tryd.ntmps162
        go_wp2_with fail
        refine c1.mono ?_
        rintro e w1 ⟨rfl, hb1⟩
        have hb1' : Below w.heap.size w w1 := hbx.trans (hb1.mono hbx.size)
        have c2 := change_any v2 b S2 _ (h2.below hb1')
        rw [hbb] at c2
        clear hbb
        go_wp2_with fail
        refine c2.mono ?_
        rintro e w2 ⟨rfl, hb2⟩
        have hb2' : Below w.heap.size w w2 := hb1'.trans (hb2.mono hb1'.size)
        have c3 := merge_any v1 v2 a b S1 S2 182 #[] (pkCompose) w2 (h1.below hb2') (h2.below hb2') n1 n2 (pickCompose w2) (enters_of Tryd.func182 (by kernel_rfl) rfl) (pkCompose_fits)
        go_wp2_with fail
        refine c3.mono ?_
        rintro e w3 ⟨v3, rfl, hb3, ho3⟩
        have hb3' : Below w.heap.size w w3 := hb2'.trans (hb3.mono hb2'.size)
        have c4 := few_no v3 _ _ w3 ho3 h8
        go_wp2_with fail
        refine c4.mono ?_
        rintro e w4 ⟨rfl, rfl⟩
        go_wp2_with fail
        go_ret2
        exact ⟨_, by rw [HE.out]; rfl, hb3', by rw [HL.out]; exact OwnA.nil _ _⟩
    · have HE : Hid (cpErr a b = 20) := by rw [Hid, cpErr, if_neg (by omega)]
      have HL : Hid (cpL a b = []) := by rw [Hid, cpL, if_neg (by rw [HE.out]; decide)]
      clear ha
      go_enter Tryd.func162, Tryd.ntmps162
      go_wp2_with fail
      refine c1.mono ?_
      rintro e w1 ⟨rfl, hb1⟩
      have hb1' : Below w.heap.size w w1 := hbx.trans (hb1.mono hbx.size)
      have c2 := change_any v2 b S2 _ (h2.below hb1')
      rw [hbb] at c2
      clear hbb
      go_wp2_with fail
      refine c2.mono ?_
      rintro e w2 ⟨rfl, hb2⟩
      go_wp2_with fail
      go_ret2
      exact ⟨_, by rw [HE.out]; rfl, hb1'.trans (hb2.mono hb1'.size), by rw [HL.out]; exact OwnA.nil _ _⟩
  · have HE : Hid (cpErr a b = 20) := by rw [Hid, cpErr, if_neg (by omega)]
    have HL : Hid (cpL a b = []) := by rw [Hid, cpL, if_neg (by rw [HE.out]; decide)]
    rw [ha] at c1
    clear ha
    go_enter Tryd.func162, Tryd.ntmps162
    go_wp2_with fail
    refine c1.mono ?_
    rintro e w1 ⟨rfl, hb1⟩
    have hb1' : Below w.heap.size w w1 := hbx.trans (hb1.mono hbx.size)
    go_wp2_with fail
    go_ret2
    exact ⟨_, by rw [HE.out]; rfl, hb1', by rw [HL.out]; exact OwnA.nil _ _⟩

end Go.Proofs.YtaemajcpgmaapaaDoor
