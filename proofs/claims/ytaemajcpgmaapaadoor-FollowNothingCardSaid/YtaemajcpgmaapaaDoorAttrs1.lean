/- attrs: which bytes, keys, values, rows of attributes may be. -/
import Derived.Test.YtaemajcpgmaapaaDoorShelf
import Derived.Test.YtaemajcpgmaapaaDoorRep
import Derived.WalkLawsBesides
import Derived.WalkSpells
import Derived.Deep.LoopGhost
import Derived.Deep.QuietTactic
import Derived.BigQuiet
import Derived.Shelf.Abstract
namespace Go.Proofs.YtaemajcpgmaapaaDoor
open Go.RowKit

/-- A text of so many bytes at most, each of which may be. -/
def madeOk (s : ByteArray) (most : Int) (p : UInt8 → Bool) : Bool := s.data.toList.all p && decide ((s.size : Int) ≤ most)
theorem madeOk_yes {s : ByteArray} {p : UInt8 → Bool} (most : Int) (h : ∀ j (h : j < s.size), p s[j] = true) : madeOk s most p = decide ((s.size : Int) ≤ most) := by
  have H : s.data.toList.all p = true := by
    rw [List.all_eq_true]
    intro x hx
    obtain ⟨j, hj, rfl⟩ := List.getElem_of_mem hx
    exact h j (by simpa using hj)
  rw [madeOk, H]; rfl
theorem madeOk_no {s : ByteArray} {p : UInt8 → Bool} (most : Int) (j : Nat) (h : j < s.size) (hq : p s[j] = false) : madeOk s most p = false := by
  have H : s.data.toList.all p = false := by
    rw [List.all_eq_false]
    exact ⟨s[j], by simp [ByteArray.getElem_eq_getElem_data], by simp [hq]⟩
  rw [madeOk, H]; rfl

set_option maxHeartbeats 1000000 in
theorem made_any (s : ByteArray) (most : Int) (g : Nat) (p : UInt8 → Bool) (w : World) (hs : s.size ≤ 9223372036854775807)
    (hp : ∀ (c : UInt8) (w : World), Calls Tryd.prog g #[.int .u8 c.toNat] w fun e w' => e = .returned (.bool (p c)) ∧ w' = w)
    (eg : ∀ args w, (callFunc g args).run Tryd.prog w = .ok (.enter g args) w) :
    Calls Tryd.prog 170 #[.string s, .int .i64 most, .func (.func g) #[] #[]] w fun e w' => e = .returned (.bool (madeOk s most p)) ∧ w' = w := by
  go_enter Tryd.func170, Tryd.ntmps170
  go_wp2_with fail
  go_loop [10] (fun i => ∃ k : Nat, k ≤ s.size ∧ i = .int .i64 k ∧ Aside (∀ j (h : j < s.size), j < k → p s[j] = true)) (fun i => s.size - (intOf i).toNat)
  case atStart => exact ⟨0, Nat.zero_le _, rfl, (show Aside _ from fun j h hj => absurd hj (Nat.not_lt_zero _))⟩
  case round =>
    obtain ⟨k, hk, rfl, A⟩ := hrel
    by_cases hlt : k < s.size
    · have hlz : (k : Int) < (s.size : Int) := by omega
      have hpk := hp s[k]
      clear hp
      cases hq : p s[k] with
      | true =>
        rw [hq] at hpk
        go_wp2_with (go_at_fn g; refine (hpk _).mono ?_; rintro e w' ⟨rfl, rfl⟩)
        go_round
        case rel =>
          refine ⟨k + 1, by omega, by go_num, (show Aside _ from fun j h hj => ?_)⟩
          by_cases e : j = k
          · subst e; exact hq
          · exact A j h (by omega)
        case measure => simp [intOf]; omega
      | false =>
        rw [hq] at hpk
        go_wp2_with (go_at_fn g; refine (hpk _).mono ?_; rintro e w' ⟨rfl, rfl⟩)
        go_ret
        exact ⟨by rw [madeOk_no most k hlt hq]; rfl, rfl⟩
    · have hlz : ¬ (k : Int) < (s.size : Int) := by omega
      have HH : Hid (madeOk s most p = decide ((s.size : Int) ≤ most)) := madeOk_yes most fun j h => A j h (by omega)
      clear A hp
      go_wp2
      go_ret
      exact ⟨by rw [HH.out]; rfl, rfl⟩

def keyList : List UInt8 := [65, 66, 67, 68, 69, 70, 71, 72, 73, 74, 75, 76, 77, 78, 79, 80, 81, 82, 83, 84, 85, 86, 87, 88, 89, 90, 97, 98, 99, 100, 101, 102, 103, 104, 105, 106, 107, 108, 109, 110, 111, 112, 113, 114, 115, 116, 117, 118, 119, 120, 121, 122, 48, 49, 50, 51, 52, 53, 54, 55, 56, 57, 45, 95]
def keyByte (c : UInt8) : Bool := decide (0 ≤ Lib.indexByte keyList c)
def valByte (c : UInt8) : Bool := decide (32 ≤ c.toNat) && decide (c.toNat ≤ 126)

theorem among_any (c : UInt8) (s : ByteArray) (w : World) :
    Calls Tryd.prog 172 #[.int .u8 c.toNat, .string s] w fun e w' => e = .returned (.bool (decide (0 ≤ Lib.indexByte s.data.toList c))) ∧ w' = w := by
  go_enter Tryd.func172, Tryd.ntmps172
  go_wp2_with (go_at_call 185; refine (Tryd.strings_IndexByte _ _ _).mono ?_; rintro e w' ⟨rfl, rfl⟩)
  go_ret
  exact ⟨by simp, rfl⟩

theorem keyByte_any (c : UInt8) (w : World) :
    Calls Tryd.prog 171 #[.int .u8 c.toNat] w fun e w' => e = .returned (.bool (keyByte c)) ∧ w' = w := by
  go_enter Tryd.func171, Tryd.ntmps171
  go_wp2_with (go_at_call 172; refine (among_any c _ _).mono ?_; rintro e w' ⟨rfl, rfl⟩)
  go_ret
  exact ⟨rfl, rfl⟩

theorem valByte_any (c : UInt8) (w : World) :
    Calls Tryd.prog 173 #[.int .u8 c.toNat] w fun e w' => e = .returned (.bool (valByte c)) ∧ w' = w := by
  go_enter Tryd.func173, Tryd.ntmps173
  go_wp2
  · go_ret
    exact ⟨by have h : (32 : Int) ≤ c.toNat := by assumption
              have h2 : 32 ≤ c.toNat := by omega
              simp [valByte, h2]; omega, rfl⟩
  · go_ret
    exact ⟨by have h : (c.toNat : Int) < 32 := by assumption
              have h2 : ¬ 32 ≤ c.toNat := by omega
              simp [valByte, h2], rfl⟩

def keyOk (s : ByteArray) : Bool := !s.toList.isEmpty && madeOk s 32 keyByte
def valOk (s : ByteArray) : Bool := madeOk s 64 valByte
/-- Is attribute k of a row fine? -/
def atOk (l : List Attr) (k : Nat) : Bool := match l[k]? with
  | none => true
  | some a => decide (k < 8) && keyOk a.key && valOk a.val && (k == 0 || match l[k - 1]? with | some b => Op.bytesLess b.key.toList a.key.toList | none => true)
def chOk (l : List Attr) : Bool := (List.range l.length).all (atOk l)

theorem keyMade (s : ByteArray) (w : World) (hs : Fits s) :
    Calls Tryd.prog 170 #[.string s, .int .i64 32, .func (.func 171) #[] #[]] w fun e w' => e = .returned (.bool (madeOk s 32 keyByte)) ∧ w' = w :=
  made_any s 32 _ keyByte w hs.lim keyByte_any (enters_of Tryd.func171 (by kernel_rfl) rfl)
theorem valMade (s : ByteArray) (w : World) (hs : Fits s) :
    Calls Tryd.prog 170 #[.string s, .int .i64 64, .func (.func 173) #[] #[]] w fun e w' => e = .returned (.bool (valOk s)) ∧ w' = w :=
  made_any s 64 _ valByte w hs.lim valByte_any (enters_of Tryd.func173 (by kernel_rfl) rfl)

def chErr (l : List Attr) : Int := if chOk l then 0 else 20
theorem chErr_bad {l : List Attr} (k : Nat) (hk : k < l.length) (h : atOk l k = false) : chErr l = 20 := by
  have : chOk l = false := by
    rw [chOk, List.all_eq_false]
    exact ⟨k, by simpa using hk, by simp [h]⟩
  simp [chErr, this]
theorem chErr_good {l : List Attr} (h : ∀ k, k < l.length → atOk l k = true) : chErr l = 0 := by
  have : chOk l = true := by
    rw [chOk, List.all_eq_true]
    intro x hx
    exact h x (by simpa using hx)
  simp [chErr, this]
theorem atOk_eq {l : List Attr} (k : Nat) (hk : k < l.length) : atOk l k = (decide (k < 8) && keyOk l[k].key && valOk l[k].val && (k == 0 || (Op.bytesLess (l[k - 1]'(by omega)).key.toList l[k].key.toList))) := by
  have e : l[k - 1]? = some (l[k - 1]'(by omega)) := List.getElem?_eq_getElem _
  simp only [atOk, List.getElem?_eq_getElem hk, e]

set_option maxHeartbeats 4000000 in
theorem change_any (v : Value) (l : List Attr) (S : Nat → Prop) (w : World) (h : Rd KA S w v l) :
    Calls Tryd.prog 138 #[v] w fun e w' => e = .returned (.int .i64 (chErr l)) ∧ Below w.heap.size w w' := by
  obtain ⟨A, c, rfl, _, hr⟩ := h
  have hlen := hr.len
  go_enter Tryd.func138, Tryd.ntmps138
  go_wp2_with fail
  go_loopg [9] (l.length + 1) (fun g s9 wr => ∃ k : Nat, k ≤ l.length ∧ l.length - k < g ∧ s9 = .int .i64 k ∧ Below w.heap.size w wr ∧ Aside (∀ j, j < k → atOk l j = true))
  case atStart => exact ⟨0, Nat.zero_le _, by omega, rfl, Below.refl _ _, (show Aside _ from fun j hj => absurd hj (Nat.not_lt_zero _))⟩
  case round =>
    obtain ⟨k, hk, hg, rfl, hb, Ad⟩ := hrel
    by_cases hlt : k < l.length
    · have hlz : (k : Int) < (l.length : Int) := by omega
      obtain ⟨b, o, rfl, hS, hbw, hc0, hc1, hf0, hf1⟩ := hr.attr k hlt
      have hd0 := (hb.cell (p := ⟨b, o + k * 2, none⟩) hbw).trans hc0
      have hd1 := (hb.cell (p := ⟨b, o + k * 2 + 1, none⟩) hbw).trans hc1
      have hat := atOk_eq (l := l) k hlt
      generalize hkey : l[k].key = key at hc0 hd0 hf0 hat
      generalize hval : l[k].val = val at hc1 hd1 hf1 hat
      clear hc0 hc1 hkey hval
      have cK := keyMade key
      have cV := valMade val
      by_cases hke : key.toList = []
      · have HB : Hid (chErr l = 20) := chErr_bad k hlt (by rw [hat]; simp [keyOk, hke])
        clear hat
        go_wp2_with (first
          | (go_at_call 170; (with_reducible refine (cV _ hf1).mono ?_); rintro e w' ⟨rfl, rfl⟩))
        by_cases h8 : (8 : Int) ≤ k
        all_goals
          go_quiet (fail)
          go_wp2
          go_ret
          exact ⟨by rw [HB.out]; rfl, below_drewN (hb.alloc hb.size _) _⟩
      · have hko : keyOk key = madeOk key 32 keyByte := by simp [keyOk, hke]
        rw [hko] at hat
        clear hko
        have hke' : key.toList.isEmpty = false := by cases hq : key.toList <;> simp_all
        by_cases hbad : (8 ≤ k ∨ madeOk key 32 keyByte = false ∨ valOk val = false)
        · have HB : Hid (chErr l = 20) := chErr_bad k hlt (by rw [hat]; rcases hbad with h | h | h <;> simp [h] <;> omega)
          clear hat
          generalize madeOk key 32 keyByte = bk at cK hbad
          generalize valOk val = bv at cV hbad
          have Hbad : Hid (8 ≤ k ∨ bk = false ∨ bv = false) := hbad
          clear hbad
          go_wp2_with (first
            | (go_at_call 170; (with_reducible refine (cK _ hf0).mono ?_); rintro e w' ⟨rfl, rfl⟩)
            | (go_at_call 170; (with_reducible refine (cV _ hf1).mono ?_); rintro e w' ⟨rfl, rfl⟩))
          by_cases h8 : (8 : Int) ≤ k
          · go_quiet (fail)
            go_wp2
            go_ret
            exact ⟨by rw [HB.out]; rfl, below_drewN (hb.alloc hb.size _) _⟩
          · have h8' : ¬ 8 ≤ k := by omega
            have hbad := Hbad.out
            clear Hbad
            cases bk <;> cases bv <;> simp [h8'] at hbad
            all_goals
              go_quiet (fail)
              go_wp2
              go_ret
              exact ⟨by rw [HB.out]; rfl, below_drewN (hb.alloc hb.size _) _⟩
        · have h8 : decide ((8 : Int) ≤ k) = false := by simp; omega
          have hmk : madeOk key 32 keyByte = true := by cases hq : madeOk key 32 keyByte <;> simp_all
          have hmv : valOk val = true := by cases hq : valOk val <;> simp_all
          clear hbad
          rw [hmk] at cK hat
          rw [hmv] at cV hat
          clear hmk hmv
          by_cases hk0 : k = 0
          · have HG : Hid (atOk l k = true) := by rw [Hid, hat]; simp [hk0]
            clear hat
            have hk0' : decide (0 < k) = false := by simp; omega
            have Hk0 : Hid (k = 0) := hk0
            clear hk0
            go_wp2_with (first
              | (go_at_call 170; (with_reducible refine (cK _ hf0).mono ?_); rintro e w' ⟨rfl, rfl⟩)
              | (go_at_call 170; (with_reducible refine (cV _ hf1).mono ?_); rintro e w' ⟨rfl, rfl⟩))
            go_quiet (fail)
            go_wp2
            go_roundg (l.length + 1 - (k + 1))
            case measure => omega
            case rel =>
              refine ⟨k + 1, by omega, by omega, by go_num, below_drewN (hb.alloc hb.size _) _, (show Aside _ from fun j hj => ?_)⟩
              by_cases e : j = k
              · subst e; exact HG.out
              · exact Ad j (by omega)
          · obtain ⟨b2, o2, he, _, _, hp0, _, hpf, _⟩ := hr.attr (k - 1) (by omega)
            simp only [Option.some.injEq, Addr.mk.injEq] at he
            obtain ⟨rfl, rfl, _⟩ := he
            have hp0' := fun ob => ((hb.alloc hb.size ob).cell (p := ⟨b, o + (k - 1) * 2, none⟩) hbw).trans hp0
            clear hp0
            have hk1 : decide (0 < k) = true := by simp; omega
            have hk2 : (k == 0) = false := by simp [hk0]
            have hk3 : k < 8 := by simp at h8; omega
            rw [hk2] at hat
            generalize (l[k - 1]'(by omega)).key = prev at hp0' hpf hat
            obtain ⟨m, hm⟩ : ∃ m, k - 1 = m := ⟨_, rfl⟩
            rw [hm] at hp0'
            have hml : (m : Int) < (l.length : Int) := by omega
            have hkw : IntKind.i64.wrap ((k : Int) - 1) = (m : Int) := by rw [IntWalk.i64_in _ (by omega)]; omega
            have Hm : Hid (k - 1 = m) := hm
            clear hk0 hk2 hm
            cases hlt2 : Op.bytesLess prev.toList key.toList with
            | true =>
              have HG : Hid (atOk l k = true) := by rw [Hid, hat, hlt2]; simp; exact hk3
              clear hat
              go_wp2_with (first
                | (go_at_call 170; (with_reducible refine (cK _ hf0).mono ?_); rintro e w' ⟨rfl, rfl⟩)
                | (go_at_call 170; (with_reducible refine (cV _ hf1).mono ?_); rintro e w' ⟨rfl, rfl⟩))
              go_quiet (fail)
              go_wp2
              go_roundg (l.length + 1 - (k + 1))
              case measure => omega
              case rel =>
                refine ⟨k + 1, by omega, by omega, by go_num, below_drewN (hb.alloc hb.size _) _, (show Aside _ from fun j hj => ?_)⟩
                by_cases e : j = k
                · subst e; exact HG.out
                · exact Ad j (by omega)
            | false =>
              have HB : Hid (chErr l = 20) := chErr_bad k hlt (by rw [hat, hlt2]; simp)
              clear hat
              go_wp2_with (first
                | (go_at_call 170; (with_reducible refine (cK _ hf0).mono ?_); rintro e w' ⟨rfl, rfl⟩)
                | (go_at_call 170; (with_reducible refine (cV _ hf1).mono ?_); rintro e w' ⟨rfl, rfl⟩))
              go_quiet (fail)
              go_wp2
              go_ret
              exact ⟨by rw [HB.out]; rfl, below_drewN (hb.alloc hb.size _) _⟩
    · have hlz : ¬ (k : Int) < (l.length : Int) := by omega
      have HG : Hid (chErr l = 0) := chErr_good fun j hj => Ad j (by omega)
      go_wp2
      go_ret
      exact ⟨by rw [HG.out]; rfl, hb⟩

end Go.Proofs.YtaemajcpgmaapaaDoor
