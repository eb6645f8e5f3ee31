/- attrs and runes: what may be; what is the same; a copy. -/
import Derived.Test.YtaemajcpgmaapaaDoorAttrs1
namespace Go.Proofs.YtaemajcpgmaapaaDoor
open Go.RowKit

/-- utf8's two tables lie as the program's text lays them. -/
def Tabs (w : World) : Prop := Lib.Utf8Tabs 0 1 w
theorem Tabs.below {w w' : World} (h : Tabs w) (hb : Below w.heap.size w w') : Tabs w' := by
  exact Utf8Tabs_below h hb

/-- How many runes a text has, and its error. -/
def cntErr (s : ByteArray) : Int := if Lib.validD s.data.toList = true ∧ Lib.runeCount s ≤ 20000 then 0 else 10
def cntN (s : ByteArray) : Int := if Lib.validD s.data.toList = true ∧ Lib.runeCount s ≤ 20000 then Lib.runeCount s else 0

set_option maxHeartbeats 1000000 in
theorem count_any (s : ByteArray) (w : World) (hs : Fits s) (hT : Tabs w) :
    Calls Tryd.prog 108 #[.string s] w fun e w' => e = .returned (.tuple #[.int .i64 (cntN s), .int .i64 (cntErr s)]) ∧ Below w.heap.size w w' := by
  have hl := hs.lim
  have hl2 : s.size < 9223372036854775807 := by unfold Fits at hs; omega
  have hrc := Lib.runeCount_le s
  have c1 := Tryd.utf8_RuneCountInString s w hl2
  have c2 : ∀ pos, Calls Tryd.prog 155 #[.string s] (w.alloc (.stringIter s pos)) _ := fun pos => Tryd.utf8_ValidString s (w.alloc (.stringIter s pos)) hl (Tabs.below hT ((Below.refl _ _).alloc (Nat.le_refl _) _))
  have hN : Hid (cntN s = if Lib.validD s.data.toList = true ∧ Lib.runeCount s ≤ 20000 then ((Lib.runeCount s : Nat) : Int) else 0) := rfl
  have hE : Hid (cntErr s = if Lib.validD s.data.toList = true ∧ Lib.runeCount s ≤ 20000 then 0 else 10) := rfl
  generalize cntN s = rn at hN ⊢
  generalize cntErr s = re at hE ⊢
  generalize Lib.runeCount s = n at c1 hrc hN hE
  generalize Lib.validD s.data.toList = v at c2 hN hE
  cases v with
  | true =>
    by_cases hn : n ≤ 20000
    · have hd : decide ((20000 : Int) < n) = false := by simp; omega
      have HN : Hid (rn = n) := by rw [Hid, hN.out, if_pos ⟨rfl, hn⟩]
      have HE : Hid (re = 0) := by rw [Hid, hE.out, if_pos ⟨rfl, hn⟩]
      clear hN hE
      go_enter Tryd.func108, Tryd.ntmps108
      go_wp2_with (first
        | (go_at_call 77; (with_reducible refine c1.mono ?_); rintro e w' ⟨rfl, pos, rfl⟩; unfold World.iter)
        | (go_at_call 155; (with_reducible refine (c2 _).mono ?_); rintro e w' ⟨rfl, hb⟩))
      go_ret2
      exact ⟨by rw [HN.out, HE.out]; rfl, ((Below.refl _ _).alloc (Nat.le_refl _) _).trans (hb.mono (by simp))⟩
    · have hd : decide ((20000 : Int) < n) = true := by simp; omega
      have HN : Hid (rn = 0) := by rw [Hid, hN.out, if_neg (by omega)]
      have HE : Hid (re = 10) := by rw [Hid, hE.out, if_neg (by omega)]
      clear hN hE
      go_enter Tryd.func108, Tryd.ntmps108
      go_wp2_with (first
        | (go_at_call 77; (with_reducible refine c1.mono ?_); rintro e w' ⟨rfl, pos, rfl⟩; unfold World.iter)
        | (go_at_call 155; (with_reducible refine (c2 _).mono ?_); rintro e w' ⟨rfl, hb⟩))
      go_ret2
      exact ⟨by rw [HN.out, HE.out]; rfl, ((Below.refl _ _).alloc (Nat.le_refl _) _).trans (hb.mono (by simp))⟩
  | false =>
    have HN : Hid (rn = 0) := by rw [Hid, hN.out, if_neg (by simp)]
    have HE : Hid (re = 10) := by rw [Hid, hE.out, if_neg (by simp)]
    clear hN hE
    go_enter Tryd.func108, Tryd.ntmps108
    go_wp2_with (first
      | (go_at_call 77; (with_reducible refine c1.mono ?_); rintro e w' ⟨rfl, pos, rfl⟩; unfold World.iter)
      | (go_at_call 155; (with_reducible refine (c2 _).mono ?_); rintro e w' ⟨rfl, hb⟩))
    go_ret2
    exact ⟨by rw [HN.out, HE.out]; rfl, ((Below.refl _ _).alloc (Nat.le_refl _) _).trans (hb.mono (by simp))⟩

def valEmpty (s : ByteArray) : Bool := s.toList.isEmpty
theorem right1_any (k v : ByteArray) (w : World) :
    Calls Tryd.prog 157 #[.agg #[.string k, .string v]] w fun e w' => e = .returned (.bool (valEmpty v)) ∧ Below w.heap.size w w' := by
  go_enter Tryd.func157, Tryd.ntmps157
  go_wp2
  go_ret
  exact ⟨rfl, (Below.refl _ _).alloc (Nat.le_refl _) _⟩

/-- The place of the first attribute without a value. -/
def idxEmpty (l : List Attr) : Int := match l.findIdx? (fun a => valEmpty a.val) with | some i => i | none => -1
theorem idxEmpty_yes {l : List Attr} (k : Nat) (hk : k < l.length) (h : ∀ j (hj : j < l.length), j < k → valEmpty l[j].val = false) (hv : valEmpty l[k].val = true) : idxEmpty l = k := by
  have : l.findIdx? (fun a => valEmpty a.val) = some k := by
    rw [List.findIdx?_eq_some_iff_getElem]
    exact ⟨hk, hv, fun j hj => by simpa using h j (by omega) hj⟩
  simp [idxEmpty, this]
theorem idxEmpty_no {l : List Attr} (h : ∀ j (hj : j < l.length), valEmpty l[j].val = false) : idxEmpty l = -1 := by
  have : l.findIdx? (fun a => valEmpty a.val) = none := by
    rw [List.findIdx?_eq_none_iff]
    intro x hx
    obtain ⟨j, hj, rfl⟩ := List.getElem_of_mem hx
    exact h j hj
  simp [idxEmpty, this]

set_option maxHeartbeats 2000000 in
theorem indexFunc_any (v : Value) (l : List Attr) (S : Nat → Prop) (w : World) (h : Rd KA S w v l) :
    Calls Tryd.prog 181 #[v, .func (.func 157) #[] #[]] w fun e w' => e = .returned (.int .i64 (idxEmpty l)) ∧ Below w.heap.size w w' := by
  obtain ⟨A, c, rfl, _, hr⟩ := h
  have hlen := hr.len
  go_enter Tryd.func181, Tryd.ntmps181
  go_wp2_with fail
  go_loopg [8] (l.length + 1) (fun g s8 wr => ∃ k : Nat, k ≤ l.length ∧ l.length - k < g ∧ s8 = .int .i64 k ∧ Below w.heap.size w wr ∧ Aside (∀ j (hj : j < l.length), j < k → valEmpty l[j].val = false))
  case atStart => exact ⟨0, Nat.zero_le _, by omega, rfl, Below.refl _ _, (show Aside _ from fun j h hj => absurd hj (Nat.not_lt_zero _))⟩
  case round =>
    obtain ⟨k, hk, hg, rfl, hb, Ad⟩ := hrel
    by_cases hlt : k < l.length
    · have hlz : (k : Int) < (l.length : Int) := by omega
      obtain ⟨b, o, rfl, hS, hbw, hc0, hc1, hf0, hf1⟩ := hr.attr k hlt
      have hd0 := (hb.cell (p := ⟨b, o + k * 2, none⟩) hbw).trans hc0
      have hd1 := (hb.cell (p := ⟨b, o + k * 2 + 1, none⟩) hbw).trans hc1
      have hcall := right1_any l[k].key l[k].val
      have HY : Hid (valEmpty l[k].val = true → idxEmpty l = k) := fun hv => idxEmpty_yes k hlt Ad hv
      have HN : Hid (valEmpty l[k].val = false → ∀ j (hj : j < l.length), j < k + 1 → valEmpty l[j].val = false) := fun hv j hj hjk => by
        by_cases e : j = k
        · subst e; exact hv
        · exact Ad j hj (by omega)
      generalize hkey : l[k].key = key at hc0 hd0 hf0 hcall
      generalize hval : l[k].val = val at hc1 hd1 hf1 hcall HY HN
      clear hc0 hc1 hkey hval Ad
      cases hve : valEmpty val with
      | true =>
        have H1 : Hid (idxEmpty l = k) := HY.out hve
        rw [hve] at hcall
        clear HY HN hve
        go_wp2_with (go_at_call 157; (with_reducible refine (hcall _).mono ?_); rintro e w' ⟨rfl, hb2⟩)
        go_ret
        exact ⟨by rw [H1.out]; rfl, hb.trans (hb2.mono hb.size)⟩
      | false =>
        have H1 : Aside (∀ j (hj : j < l.length), j < k + 1 → valEmpty l[j].val = false) := HN.out hve
        rw [hve] at hcall
        clear HY HN hve
        go_wp2_with (go_at_call 157; (with_reducible refine (hcall _).mono ?_); rintro e w' ⟨rfl, hb2⟩)
        go_roundg (l.length + 1 - (k + 1))
        case measure => omega
        case rel => exact ⟨k + 1, by omega, by omega, by go_num, hb.trans (hb2.mono hb.size), H1⟩
    · have hlz : ¬ (k : Int) < (l.length : Int) := by omega
      have H1 : Hid (idxEmpty l = -1) := idxEmpty_no fun j hj => Ad j hj (by omega)
      clear Ad
      go_wp2
      go_ret
      exact ⟨by rw [H1.out]; rfl, hb⟩

/-- Is there an attribute without a value? -/
def anyEmpty (l : List Attr) : Bool := decide (0 ≤ idxEmpty l)
theorem containsFunc_any (v : Value) (l : List Attr) (S : Nat → Prop) (w : World) (h : Rd KA S w v l) :
    Calls Tryd.prog 156 #[v, .func (.func 157) #[] #[]] w fun e w' => e = .returned (.bool (anyEmpty l)) ∧ Below w.heap.size w w' := by
  have c1 := indexFunc_any v l S w h
  go_enter Tryd.func156, Tryd.ntmps156
  go_wp2_with (go_at_call 181; (with_reducible refine c1.mono ?_); rintro e w' ⟨rfl, hb2⟩)
  go_ret
  exact ⟨rfl, hb2⟩

def rtErr (l : List Attr) : Int := if anyEmpty l then 20 else chErr l
theorem right_any (v : Value) (l : List Attr) (S : Nat → Prop) (w : World) (h : Rd KA S w v l) :
    Calls Tryd.prog 109 #[v] w fun e w' => e = .returned (.int .i64 (rtErr l)) ∧ Below w.heap.size w w' := by
  have c1 := containsFunc_any v l S w h
  cases hae : anyEmpty l with
  | true =>
    have H : Hid (rtErr l = 20) := by rw [Hid, rtErr, hae]; rfl
    rw [hae] at c1
    go_enter Tryd.func109, Tryd.ntmps109
    go_wp2_with (go_at_call 156; (with_reducible refine c1.mono ?_); rintro e w' ⟨rfl, hb2⟩)
    go_ret
    exact ⟨by rw [H.out]; rfl, hb2⟩
  | false =>
    have H : Hid (rtErr l = chErr l) := by rw [Hid, rtErr, hae]; rfl
    rw [hae] at c1
    go_enter Tryd.func109, Tryd.ntmps109
    go_wp2_with (first
      | (go_at_call 156; (with_reducible refine c1.mono ?_); rintro e w1 ⟨rfl, hb2⟩)
      | (go_at_call 138; (with_reducible refine (change_any v l S _ (h.below hb2)).mono ?_); rintro e w2 ⟨rfl, hb3⟩))
    go_ret
    exact ⟨by rw [H.out]; rfl, hb2.trans (hb3.mono hb2.size)⟩

end Go.Proofs.YtaemajcpgmaapaaDoor
