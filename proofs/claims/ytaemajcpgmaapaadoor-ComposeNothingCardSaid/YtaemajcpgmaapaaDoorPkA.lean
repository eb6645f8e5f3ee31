/- How the data of the program read in memory: rows of structs, whose fields may be rows themselves. Plain definitions; frames. | attrs: which bytes, keys, values, rows of attributes may be. | attrs and runes: what may be; what is the same; a copy. | attrs: the same; a copy. -/
import Derived.WalkKit
import Derived.Deep.Draws
import Derived.Test.YtaemajcpgmaapaaDoorShelf
import Derived.WalkLawsBesides
import Derived.WalkSpells
import Derived.Deep.LoopGhost
import Derived.Deep.QuietTactic
import Derived.BigQuiet
import Derived.Shelf.Abstract
import Derived.Lib.Hide
namespace Go.Proofs.YtaemajcpgmaapaaDoor
open Go.RowKit

structure Attr where
  key : ByteArray
  val : ByteArray
  deriving DecidableEq, Inhabited

structure Op where
  kind : Int
  n : Int
  text : ByteArray
  attrs : List Attr
  deriving DecidableEq, Inhabited

structure Change where
  from_ : Int
  ops : List Op
  deriving DecidableEq, Inhabited

structure Run where
  text : ByteArray
  attrs : List Attr
  deriving DecidableEq, Inhabited

theorem below_drewN {B : Nat} {a w : World} (h : Below B a w) (n : Nat) : Below B a (w.drewN n) := ⟨h.os, h.tape, h.output, h.size, h.block⟩

/-- Behind a contract that lays blocks alone each old cell reads as it did. -/
theorem bcell {W w1 : World} (hb : Below W.heap.size W w1) : (∀ b o, b < W.heap.size → w1.cell? ⟨b, o, none⟩ = W.cell? ⟨b, o, none⟩) ∧ (∀ b o, b < W.heap.size → w1.frozen? ⟨b, o, none⟩ = W.frozen? ⟨b, o, none⟩) :=
  ⟨fun b o h => hb.cell (p := ⟨b, o, none⟩) h, fun b o h => hb.frozen (p := ⟨b, o, none⟩) h⟩

/-- A kind of element: how many cells it has, what they hold. -/
structure Kd (α : Type) where
  sz : Nat
  bytes : Nat
  bytesPos : 0 < bytes
  rep : (Nat → Prop) → World → α → List Value → Prop
  keep : ∀ {S w w' x cs}, (∀ k, S k → k < w.heap.size → w'.heap[k]? = w.heap[k]?) → rep S w x cs → rep S w' x cs
  imp : ∀ {S S' : Nat → Prop} {w x cs}, (∀ k, k < w.heap.size → S k → S' k) → rep S w x cs → rep S' w x cs

/-- A row of elements at an address. -/
def RdS {α : Type} (K : Kd α) (S : Nat → Prop) (w : World) (A : Option Addr) (l : List α) : Prop :=
  l.length * K.bytes ≤ 140737488355328 ∧ ∀ k (hk : k < l.length), ∃ b o cs, A = some ⟨b, o, none⟩ ∧ S b ∧ b < w.heap.size ∧ K.rep S w l[k] cs ∧
    ∀ j x, cs[j]? = some x → w.cell? ⟨b, o + k * K.sz + j, none⟩ = some x

/-- A slice value that reads as a row. -/
def Rd {α : Type} (K : Kd α) (S : Nat → Prop) (w : World) (v : Value) (l : List α) : Prop :=
  ∃ A c, v = .slice A l.length c ∧ ((A = none → c = 0) ∧ l.length ≤ c) ∧ RdS K S w A l

section
variable {α : Type} {K : Kd α} {S S' : Nat → Prop} {w w' : World} {A : Option Addr} {v : Value} {l : List α}
theorem RdS.len (h : RdS K S w A l) : l.length ≤ 140737488355328 := Nat.le_trans (Nat.le_mul_of_pos_right _ K.bytesPos) h.1
theorem RdS.keep (h : RdS K S w A l) (hs : w.heap.size ≤ w'.heap.size) (hk : ∀ k, S k → k < w.heap.size → w'.heap[k]? = w.heap[k]?) : RdS K S w' A l :=
  ⟨h.1, fun k hl => by
    obtain ⟨b, o, cs, e, hS, hb, hr, hc⟩ := h.2 k hl
    exact ⟨b, o, cs, e, hS, by omega, K.keep hk hr, fun j x hx => (World.cell?_of_block (hk b hS hb)).trans (hc j x hx)⟩⟩
theorem RdS.imp (h : RdS K S w A l) (hi : ∀ k, k < w.heap.size → S k → S' k) : RdS K S' w A l :=
  ⟨h.1, fun k hl => by
    obtain ⟨b, o, cs, e, hS, hb, hr, hc⟩ := h.2 k hl
    exact ⟨b, o, cs, e, hi b hb hS, hb, K.imp hi hr, hc⟩⟩
theorem Rd.keep (h : Rd K S w v l) (hs : w.heap.size ≤ w'.heap.size) (hk : ∀ k, S k → k < w.heap.size → w'.heap[k]? = w.heap[k]?) : Rd K S w' v l := by
  obtain ⟨A, c, e, hn, h⟩ := h
  exact ⟨A, c, e, hn, h.keep hs hk⟩
theorem Rd.imp (h : Rd K S w v l) (hi : ∀ k, k < w.heap.size → S k → S' k) : Rd K S' w v l := by
  obtain ⟨A, c, e, hn, h⟩ := h
  exact ⟨A, c, e, hn, h.imp hi⟩
theorem Rd.below (h : Rd K S w v l) (hb : Below w.heap.size w w') : Rd K S w' v l := h.keep hb.size fun k _ hk => hb.block k hk
/-- Whatever lies below B, or where nothing is written. -/
theorem Rd.belowB {B : Nat} (h : Rd K S w v l) (hS : ∀ k, S k → k < B) (hb : Below B w w') : Rd K S w' v l := h.keep hb.size fun k hk _ => hb.block k (hS k hk)
theorem Rd.grown {row : Option Nat} (h : Rd K S w v l) (hg : w.grownBy w' row) (hr : ∀ k, S k → some k ≠ row) : Rd K S w' v l := h.keep hg.size fun k hk hl => hg.block k hl (hr k hk)
theorem Rd.setCell (h : Rd K S w v l) {p : Addr} (u : Value) (hp : ∀ k, S k → k ≠ p.block) : Rd K S (w.setCell p u) v l :=
  h.keep (by simp [World.setCell]) fun k hk _ => Below.heap_setCell w p u k (hp k hk)
theorem Rd.nil (K : Kd α) (S : Nat → Prop) (w : World) (A : Option Addr) (c : Nat) (hc : A = none → c = 0) : Rd K S w (.slice A 0 c) [] := ⟨A, c, rfl, ⟨hc, by simp⟩, by simp, fun k hk => absurd hk (by simp)⟩
theorem Rd.len (h : Rd K S w v l) : l.length ≤ 140737488355328 := by
  obtain ⟨_, _, _, _, h⟩ := h
  exact h.len
end

/-- A text that is no longer than memory allows. -/
def Fits (s : ByteArray) : Prop := s.size ≤ 140737488355328
theorem Fits.lim {s : ByteArray} (h : Fits s) : s.size ≤ 9223372036854775807 := by unfold Fits at h; omega

/-- An attribute: two strings. -/
def KA : Kd Attr where
  sz := 2
  bytes := 32
  bytesPos := by decide
  rep := fun _ _ a cs => cs = [.string a.key, .string a.val] ∧ Fits a.key ∧ Fits a.val
  keep := fun _ h => h
  imp := fun _ h => h

/-- An operation. -/
def KO : Kd Op where
  sz := 4
  bytes := 56
  bytesPos := by decide
  rep := fun S w o cs => ∃ va, cs = [.int .i64 o.kind, .int .i64 o.n, .string o.text, va] ∧ Rd KA S w va o.attrs ∧ Fits o.text
  keep := fun {S w w' x cs} hk h => by
    obtain ⟨va, e, h, hf⟩ := h
    obtain ⟨A, c, e2, hn, h⟩ := h
    refine ⟨va, e, ⟨A, c, e2, hn, h.1, fun k hl => ?_⟩, hf⟩
    obtain ⟨b, o, cs, e, hS, hb, hr, hc⟩ := h.2 k hl
    have hz := hk b hS hb
    exact ⟨b, o, cs, e, hS, (by
      rcases Nat.lt_or_ge b w'.heap.size with h' | h'
      · exact h'
      · rw [Array.getElem?_eq_none h', Array.getElem?_eq_getElem hb] at hz
        cases hz), hr, fun j x hx => (World.cell?_of_block hz).trans (hc j x hx)⟩
  imp := fun hi h => by
    obtain ⟨va, e, h, hf⟩ := h
    exact ⟨va, e, h.imp hi, hf⟩

/-- A run of a document. -/
def KR : Kd Run where
  sz := 2
  bytes := 40
  bytesPos := by decide
  rep := fun S w o cs => ∃ va, cs = [.string o.text, va] ∧ Rd KA S w va o.attrs ∧ Fits o.text
  keep := fun {S w w' x cs} hk h => by
    obtain ⟨va, e, h, hf⟩ := h
    obtain ⟨A, c, e2, hn, h⟩ := h
    refine ⟨va, e, ⟨A, c, e2, hn, h.1, fun k hl => ?_⟩, hf⟩
    obtain ⟨b, o, cs, e, hS, hb, hr, hc⟩ := h.2 k hl
    have hz := hk b hS hb
    exact ⟨b, o, cs, e, hS, (by
      rcases Nat.lt_or_ge b w'.heap.size with h' | h'
      · exact h'
      · rw [Array.getElem?_eq_none h', Array.getElem?_eq_getElem hb] at hz
        cases hz), hr, fun j x hx => (World.cell?_of_block hz).trans (hc j x hx)⟩
  imp := fun hi h => by
    obtain ⟨va, e, h, hf⟩ := h
    exact ⟨va, e, h.imp hi, hf⟩

section
variable {S : Nat → Prop} {w : World} {A : Option Addr}
theorem RdS.attr {l : List Attr} (h : RdS KA S w A l) (k : Nat) (hk : k < l.length) :
    ∃ b o, A = some ⟨b, o, none⟩ ∧ S b ∧ b < w.heap.size ∧ w.cell? ⟨b, o + k * 2, none⟩ = some (.string l[k].key) ∧ w.cell? ⟨b, o + k * 2 + 1, none⟩ = some (.string l[k].val) ∧ Fits l[k].key ∧ Fits l[k].val := by
  obtain ⟨b, o, cs, e, hS, hb, hr, hc⟩ := h.2 k hk
  obtain ⟨rfl, hf⟩ : cs = _ ∧ _ := hr
  exact ⟨b, o, e, hS, hb, hc 0 _ rfl, hc 1 _ rfl, hf⟩
theorem RdS.op {l : List Op} (h : RdS KO S w A l) (k : Nat) (hk : k < l.length) :
    ∃ b o va, A = some ⟨b, o, none⟩ ∧ S b ∧ b < w.heap.size ∧ w.cell? ⟨b, o + k * 4, none⟩ = some (.int .i64 l[k].kind) ∧ w.cell? ⟨b, o + k * 4 + 1, none⟩ = some (.int .i64 l[k].n)
      ∧ w.cell? ⟨b, o + k * 4 + 2, none⟩ = some (.string l[k].text) ∧ w.cell? ⟨b, o + k * 4 + 3, none⟩ = some va ∧ Rd KA S w va l[k].attrs ∧ Fits l[k].text := by
  obtain ⟨b, o, cs, e, hS, hb, hr, hc⟩ := h.2 k hk
  obtain ⟨va, rfl, hv⟩ : ∃ va, cs = _ ∧ _ := hr
  exact ⟨b, o, va, e, hS, hb, hc 0 _ rfl, hc 1 _ rfl, hc 2 _ rfl, hc 3 _ rfl, hv⟩
/-- The same, the attributes' slice laid open. -/
theorem RdS.ops {l : List Op} (h : RdS KO S w A l) (k : Nat) (hk : k < l.length) :
    ∃ b o A2 c2, A = some ⟨b, o, none⟩ ∧ S b ∧ b < w.heap.size ∧ w.cell? ⟨b, o + k * 4, none⟩ = some (.int .i64 l[k].kind) ∧ w.cell? ⟨b, o + k * 4 + 1, none⟩ = some (.int .i64 l[k].n)
      ∧ w.cell? ⟨b, o + k * 4 + 2, none⟩ = some (.string l[k].text) ∧ w.cell? ⟨b, o + k * 4 + 3, none⟩ = some (.slice A2 l[k].attrs.length c2) ∧ Rd KA S w (.slice A2 l[k].attrs.length c2) l[k].attrs ∧ Fits l[k].text := by
  obtain ⟨b, o, va, e, hS, hb, h0, h1, h2, h3, hv, hf⟩ := h.op k hk
  obtain ⟨A2, c2, rfl, hx⟩ := hv
  exact ⟨b, o, A2, c2, e, hS, hb, h0, h1, h2, h3, ⟨A2, c2, rfl, hx⟩, hf⟩
theorem RdS.runs {l : List Run} (h : RdS KR S w A l) (k : Nat) (hk : k < l.length) :
    ∃ b o A2 c2, A = some ⟨b, o, none⟩ ∧ S b ∧ b < w.heap.size ∧ w.cell? ⟨b, o + k * 2, none⟩ = some (.string l[k].text) ∧ w.cell? ⟨b, o + k * 2 + 1, none⟩ = some (.slice A2 l[k].attrs.length c2) ∧ Rd KA S w (.slice A2 l[k].attrs.length c2) l[k].attrs ∧ Fits l[k].text := by
  obtain ⟨b, o, cs, e, hS, hb, hr, hc⟩ := h.2 k hk
  obtain ⟨va, rfl, hv, hf⟩ : ∃ va, cs = _ ∧ _ := hr
  obtain ⟨A2, c2, rfl, hx⟩ := hv
  exact ⟨b, o, A2, c2, e, hS, hb, hc 0 _ rfl, hc 1 _ rfl, ⟨A2, c2, rfl, hx⟩, hf⟩
theorem RdS.run {l : List Run} (h : RdS KR S w A l) (k : Nat) (hk : k < l.length) :
    ∃ b o va, A = some ⟨b, o, none⟩ ∧ S b ∧ b < w.heap.size ∧ w.cell? ⟨b, o + k * 2, none⟩ = some (.string l[k].text) ∧ w.cell? ⟨b, o + k * 2 + 1, none⟩ = some va ∧ Rd KA S w va l[k].attrs ∧ Fits l[k].text := by
  obtain ⟨b, o, cs, e, hS, hb, hr, hc⟩ := h.2 k hk
  obtain ⟨va, rfl, hv⟩ : ∃ va, cs = _ ∧ _ := hr
  exact ⟨b, o, va, e, hS, hb, hc 0 _ rfl, hc 1 _ rfl, hv⟩
end

end Go.Proofs.YtaemajcpgmaapaaDoor

namespace Go.Proofs.YtaemajcpgmaapaaDoor
open Go.RowKit

/-- A text of so many bytes at most, each of which may be. -/
def madeOk (s : ByteArray) (most : Int) (p : UInt8 → Bool) : Bool := s.data.toList.all p && decide ((s.size : Int) ≤ most)
theorem madeOk_yes {s : ByteArray} {p : UInt8 → Bool} (most : Int) (h : ∀ j (h : j < s.size), p s[j] = true) : madeOk s most p = decide ((s.size : Int) ≤ most) := by
  have H : s.data.toList.all p = true := by
    rw [List.all_eq_true]
    intro x hx
    obtain ⟨j, hj, rfl⟩ := List.getElem_of_mem hx
    exact h j (by simpa using hj)
  rw [madeOk, H]; rfl
theorem madeOk_no {s : ByteArray} {p : UInt8 → Bool} (most : Int) (j : Nat) (h : j < s.size) (hq : p s[j] = false) : madeOk s most p = false := by
  have H : s.data.toList.all p = false := by
    rw [List.all_eq_false]
    exact ⟨s[j], by simp [ByteArray.getElem_eq_getElem_data], by simp [hq]⟩
  rw [madeOk, H]; rfl

set_option maxHeartbeats 1000000 in
theorem made_any (s : ByteArray) (most : Int) (g : Nat) (p : UInt8 → Bool) (w : World) (hs : s.size ≤ 9223372036854775807)
    (hp : ∀ (c : UInt8) (w : World), Calls Tryd.prog g #[.int .u8 c.toNat] w fun e w' => e = .returned (.bool (p c)) ∧ w' = w)
    (eg : ∀ args w, (callFunc g args).run Tryd.prog w = .ok (.enter g args) w) :
    Calls Tryd.prog 170 #[.string s, .int .i64 most, .func (.func g) #[] #[]] w fun e w' => e = .returned (.bool (madeOk s most p)) ∧ w' = w := by
  go_enter Tryd.func170, Tryd.ntmps170
  go_wp2_with fail
  go_loop [10] (fun i => ∃ k : Nat, k ≤ s.size ∧ i = .int .i64 k ∧ Aside (∀ j (h : j < s.size), j < k → p s[j] = true)) (fun i => s.size - (intOf i).toNat)
  case atStart => exact ⟨0, Nat.zero_le _, rfl, (show Aside _ from fun j h hj => absurd hj (Nat.not_lt_zero _))⟩
  case round =>
    obtain ⟨k, hk, rfl, A⟩ := hrel
    by_cases hlt : k < s.size
    · have hlz : (k : Int) < (s.size : Int) := by omega
      have hpk := hp s[k]
      clear hp
      cases hq : p s[k] with
      | true =>
        rw [hq] at hpk
        go_wp2_with (go_at_fn g; refine (hpk _).mono ?_; rintro e w' ⟨rfl, rfl⟩)
        go_round
        case rel =>
          refine ⟨k + 1, by omega, by go_num, (show Aside _ from fun j h hj => ?_)⟩
          by_cases e : j = k
          · subst e; exact hq
          · exact A j h (by omega)
        case measure => simp [intOf]; omega
      | false =>
        rw [hq] at hpk
        go_wp2_with (go_at_fn g; refine (hpk _).mono ?_; rintro e w' ⟨rfl, rfl⟩)
        go_ret
        exact ⟨by rw [madeOk_no most k hlt hq]; rfl, rfl⟩
    · have hlz : ¬ (k : Int) < (s.size : Int) := by omega
      have HH : Hid (madeOk s most p = decide ((s.size : Int) ≤ most)) := madeOk_yes most fun j h => A j h (by omega)
      clear A hp
      go_wp2
      go_ret
      exact ⟨by rw [HH.out]; rfl, rfl⟩

def keyList : List UInt8 := [65, 66, 67, 68, 69, 70, 71, 72, 73, 74, 75, 76, 77, 78, 79, 80, 81, 82, 83, 84, 85, 86, 87, 88, 89, 90, 97, 98, 99, 100, 101, 102, 103, 104, 105, 106, 107, 108, 109, 110, 111, 112, 113, 114, 115, 116, 117, 118, 119, 120, 121, 122, 48, 49, 50, 51, 52, 53, 54, 55, 56, 57, 45, 95]
def keyByte (c : UInt8) : Bool := decide (0 ≤ Lib.indexByte keyList c)
def valByte (c : UInt8) : Bool := decide (32 ≤ c.toNat) && decide (c.toNat ≤ 126)

theorem among_any (c : UInt8) (s : ByteArray) (w : World) :
    Calls Tryd.prog 172 #[.int .u8 c.toNat, .string s] w fun e w' => e = .returned (.bool (decide (0 ≤ Lib.indexByte s.data.toList c))) ∧ w' = w := by
  go_enter Tryd.func172, Tryd.ntmps172
  go_wp2_with (go_at_call 185; refine (Tryd.strings_IndexByte _ _ _).mono ?_; rintro e w' ⟨rfl, rfl⟩)
  go_ret
  exact ⟨by simp, rfl⟩

theorem keyByte_any (c : UInt8) (w : World) :
    Calls Tryd.prog 171 #[.int .u8 c.toNat] w fun e w' => e = .returned (.bool (keyByte c)) ∧ w' = w := by
  go_enter Tryd.func171, Tryd.ntmps171
  go_wp2_with (go_at_call 172; refine (among_any c _ _).mono ?_; rintro e w' ⟨rfl, rfl⟩)
  go_ret
  exact ⟨rfl, rfl⟩

theorem valByte_any (c : UInt8) (w : World) :
    Calls Tryd.prog 173 #[.int .u8 c.toNat] w fun e w' => e = .returned (.bool (valByte c)) ∧ w' = w := by
  go_enter Tryd.func173, Tryd.ntmps173
  go_wp2
  · go_ret
    exact ⟨by have h : (32 : Int) ≤ c.toNat := by assumption
              have h2 : 32 ≤ c.toNat := by omega
              simp [valByte, h2]; omega, rfl⟩
  · go_ret
    exact ⟨by have h : (c.toNat : Int) < 32 := by assumption
              have h2 : ¬ 32 ≤ c.toNat := by omega
              simp [valByte, h2], rfl⟩

def keyOk (s : ByteArray) : Bool := !s.toList.isEmpty && madeOk s 32 keyByte
def valOk (s : ByteArray) : Bool := madeOk s 64 valByte
/-- Is attribute k of a row fine? -/
def atOk (l : List Attr) (k : Nat) : Bool := match l[k]? with
  | none => true
  | some a => decide (k < 8) && keyOk a.key && valOk a.val && (k == 0 || match l[k - 1]? with | some b => Op.bytesLess b.key.toList a.key.toList | none => true)
def chOk (l : List Attr) : Bool := (List.range l.length).all (atOk l)

theorem keyMade (s : ByteArray) (w : World) (hs : Fits s) :
    Calls Tryd.prog 170 #[.string s, .int .i64 32, .func (.func 171) #[] #[]] w fun e w' => e = .returned (.bool (madeOk s 32 keyByte)) ∧ w' = w :=
  made_any s 32 _ keyByte w hs.lim keyByte_any (enters_of Tryd.func171 (by kernel_rfl) rfl)
theorem valMade (s : ByteArray) (w : World) (hs : Fits s) :
    Calls Tryd.prog 170 #[.string s, .int .i64 64, .func (.func 173) #[] #[]] w fun e w' => e = .returned (.bool (valOk s)) ∧ w' = w :=
  made_any s 64 _ valByte w hs.lim valByte_any (enters_of Tryd.func173 (by kernel_rfl) rfl)

def chErr (l : List Attr) : Int := if chOk l then 0 else 20
theorem chErr_bad {l : List Attr} (k : Nat) (hk : k < l.length) (h : atOk l k = false) : chErr l = 20 := by
  have : chOk l = false := by
    rw [chOk, List.all_eq_false]
    exact ⟨k, by simpa using hk, by simp [h]⟩
  simp [chErr, this]
theorem chErr_good {l : List Attr} (h : ∀ k, k < l.length → atOk l k = true) : chErr l = 0 := by
  have : chOk l = true := by
    rw [chOk, List.all_eq_true]
    intro x hx
    exact h x (by simpa using hx)
  simp [chErr, this]
theorem atOk_eq {l : List Attr} (k : Nat) (hk : k < l.length) : atOk l k = (decide (k < 8) && keyOk l[k].key && valOk l[k].val && (k == 0 || (Op.bytesLess (l[k - 1]'(by omega)).key.toList l[k].key.toList))) := by
  have e : l[k - 1]? = some (l[k - 1]'(by omega)) := List.getElem?_eq_getElem _
  simp only [atOk, List.getElem?_eq_getElem hk, e]

set_option maxHeartbeats 4000000 in
theorem change_any (v : Value) (l : List Attr) (S : Nat → Prop) (w : World) (h : Rd KA S w v l) :
    Calls Tryd.prog 138 #[v] w fun e w' => e = .returned (.int .i64 (chErr l)) ∧ Below w.heap.size w w' := by
  obtain ⟨A, c, rfl, _, hr⟩ := h
  have hlen := hr.len
  go_enter Tryd.func138, Tryd.ntmps138
  go_wp2_with fail
  go_loopg [9] (l.length + 1) (fun g s9 wr => ∃ k : Nat, k ≤ l.length ∧ l.length - k < g ∧ s9 = .int .i64 k ∧ Below w.heap.size w wr ∧ Aside (∀ j, j < k → atOk l j = true))
  case atStart => exact ⟨0, Nat.zero_le _, by omega, rfl, Below.refl _ _, (show Aside _ from fun j hj => absurd hj (Nat.not_lt_zero _))⟩
  case round =>
    obtain ⟨k, hk, hg, rfl, hb, Ad⟩ := hrel
    by_cases hlt : k < l.length
    · have hlz : (k : Int) < (l.length : Int) := by omega
      obtain ⟨b, o, rfl, hS, hbw, hc0, hc1, hf0, hf1⟩ := hr.attr k hlt
      have hd0 := (hb.cell (p := ⟨b, o + k * 2, none⟩) hbw).trans hc0
      have hd1 := (hb.cell (p := ⟨b, o + k * 2 + 1, none⟩) hbw).trans hc1
      have hat := atOk_eq (l := l) k hlt
      generalize hkey : l[k].key = key at hc0 hd0 hf0 hat
      generalize hval : l[k].val = val at hc1 hd1 hf1 hat
      clear hc0 hc1 hkey hval
      have cK := keyMade key
      have cV := valMade val
      by_cases hke : key.toList = []
      · have HB : Hid (chErr l = 20) := chErr_bad k hlt (by rw [hat]; simp [keyOk, hke])
        clear hat
        go_wp2_with (first
          | (go_at_call 170; (with_reducible refine (cV _ hf1).mono ?_); rintro e w' ⟨rfl, rfl⟩))
        by_cases h8 : (8 : Int) ≤ k
        all_goals
          go_quiet (fail)
          go_wp2
          go_ret
          exact ⟨by rw [HB.out]; rfl, below_drewN (hb.alloc hb.size _) _⟩
      · have hko : keyOk key = madeOk key 32 keyByte := by simp [keyOk, hke]
        rw [hko] at hat
        clear hko
        have hke' : key.toList.isEmpty = false := by cases hq : key.toList <;> simp_all
        by_cases hbad : (8 ≤ k ∨ madeOk key 32 keyByte = false ∨ valOk val = false)
        · have HB : Hid (chErr l = 20) := chErr_bad k hlt (by rw [hat]; rcases hbad with h | h | h <;> simp [h] <;> omega)
          clear hat
          generalize madeOk key 32 keyByte = bk at cK hbad
          generalize valOk val = bv at cV hbad
          have Hbad : Hid (8 ≤ k ∨ bk = false ∨ bv = false) := hbad
          clear hbad
          go_wp2_with (first
            | (go_at_call 170; (with_reducible refine (cK _ hf0).mono ?_); rintro e w' ⟨rfl, rfl⟩)
            | (go_at_call 170; (with_reducible refine (cV _ hf1).mono ?_); rintro e w' ⟨rfl, rfl⟩))
          by_cases h8 : (8 : Int) ≤ k
          · go_quiet (fail)
            go_wp2
            go_ret
            exact ⟨by rw [HB.out]; rfl, below_drewN (hb.alloc hb.size _) _⟩
          · have h8' : ¬ 8 ≤ k := by omega
            have hbad := Hbad.out
            clear Hbad
            cases bk <;> cases bv <;> simp [h8'] at hbad
            all_goals
              go_quiet (fail)
              go_wp2
              go_ret
              exact ⟨by rw [HB.out]; rfl, below_drewN (hb.alloc hb.size _) _⟩
        · have h8 : decide ((8 : Int) ≤ k) = false := by simp; omega
          have hmk : madeOk key 32 keyByte = true := by cases hq : madeOk key 32 keyByte <;> simp_all
          have hmv : valOk val = true := by cases hq : valOk val <;> simp_all
          clear hbad
          rw [hmk] at cK hat
          rw [hmv] at cV hat
          clear hmk hmv
          by_cases hk0 : k = 0
          · have HG : Hid (atOk l k = true) := by rw [Hid, hat]; simp [hk0]
            clear hat
            have hk0' : decide (0 < k) = false := by simp; omega
            have Hk0 : Hid (k = 0) := hk0
            clear hk0
            go_wp2_with (first
              | (go_at_call 170; (with_reducible refine (cK _ hf0).mono ?_); rintro e w' ⟨rfl, rfl⟩)
              | (go_at_call 170; (with_reducible refine (cV _ hf1).mono ?_); rintro e w' ⟨rfl, rfl⟩))
            go_quiet (fail)
            go_wp2
            go_roundg (l.length + 1 - (k + 1))
            case measure => omega
            case rel =>
              refine ⟨k + 1, by omega, by omega, by go_num, below_drewN (hb.alloc hb.size _) _, (show Aside _ from fun j hj => ?_)⟩
              by_cases e : j = k
              · subst e; exact HG.out
              · exact Ad j (by omega)
          · obtain ⟨b2, o2, he, _, _, hp0, _, hpf, _⟩ := hr.attr (k - 1) (by omega)
            simp only [Option.some.injEq, Addr.mk.injEq] at he
            obtain ⟨rfl, rfl, _⟩ := he
            have hp0' := fun ob => ((hb.alloc hb.size ob).cell (p := ⟨b, o + (k - 1) * 2, none⟩) hbw).trans hp0
            clear hp0
            have hk1 : decide (0 < k) = true := by simp; omega
            have hk2 : (k == 0) = false := by simp [hk0]
            have hk3 : k < 8 := by simp at h8; omega
            rw [hk2] at hat
            generalize (l[k - 1]'(by omega)).key = prev at hp0' hpf hat
            obtain ⟨m, hm⟩ : ∃ m, k - 1 = m := ⟨_, rfl⟩
            rw [hm] at hp0'
            have hml : (m : Int) < (l.length : Int) := by omega
            have hkw : IntKind.i64.wrap ((k : Int) - 1) = (m : Int) := by rw [IntWalk.i64_in _ (by omega)]; omega
            have Hm : Hid (k - 1 = m) := hm
            clear hk0 hk2 hm
            cases hlt2 : Op.bytesLess prev.toList key.toList with
            | true =>
              have HG : Hid (atOk l k = true) := by rw [Hid, hat, hlt2]; simp; exact hk3
              clear hat
              go_wp2_with (first
                | (go_at_call 170; (with_reducible refine (cK _ hf0).mono ?_); rintro e w' ⟨rfl, rfl⟩)
                | (go_at_call 170; (with_reducible refine (cV _ hf1).mono ?_); rintro e w' ⟨rfl, rfl⟩))
              go_quiet (fail)
              go_wp2
              go_roundg (l.length + 1 - (k + 1))
              case measure => omega
              case rel =>
                refine ⟨k + 1, by omega, by omega, by go_num, below_drewN (hb.alloc hb.size _) _, (show Aside _ from fun j hj => ?_)⟩
                by_cases e : j = k
                · subst e; exact HG.out
                · exact Ad j (by omega)
            | false =>
              have HB : Hid (chErr l = 20) := chErr_bad k hlt (by rw [hat, hlt2]; simp)
              clear hat
              go_wp2_with (first
                | (go_at_call 170; (with_reducible refine (cK _ hf0).mono ?_); rintro e w' ⟨rfl, rfl⟩)
                | (go_at_call 170; (with_reducible refine (cV _ hf1).mono ?_); rintro e w' ⟨rfl, rfl⟩))
              go_quiet (fail)
              go_wp2
              go_ret
              exact ⟨by rw [HB.out]; rfl, below_drewN (hb.alloc hb.size _) _⟩
    · have hlz : ¬ (k : Int) < (l.length : Int) := by omega
      have HG : Hid (chErr l = 0) := chErr_good fun j hj => Ad j (by omega)
      go_wp2
      go_ret
      exact ⟨by rw [HG.out]; rfl, hb⟩

end Go.Proofs.YtaemajcpgmaapaaDoor

namespace Go.Proofs.YtaemajcpgmaapaaDoor
open Go.RowKit

/-- utf8's two tables lie as the program's text lays them. -/
def Tabs (w : World) : Prop := Lib.Utf8Tabs 0 1 w
theorem Tabs.below {w w' : World} (h : Tabs w) (hb : Below w.heap.size w w') : Tabs w' := by
  exact Utf8Tabs_below h hb

/-- How many runes a text has, and its error. -/
def cntErr (s : ByteArray) : Int := if Lib.validD s.data.toList = true ∧ Lib.runeCount s ≤ 20000 then 0 else 10
def cntN (s : ByteArray) : Int := if Lib.validD s.data.toList = true ∧ Lib.runeCount s ≤ 20000 then Lib.runeCount s else 0

set_option maxHeartbeats 1000000 in
theorem count_any (s : ByteArray) (w : World) (hs : Fits s) (hT : Tabs w) :
    Calls Tryd.prog 108 #[.string s] w fun e w' => e = .returned (.tuple #[.int .i64 (cntN s), .int .i64 (cntErr s)]) ∧ Below w.heap.size w w' := by
  have hl := hs.lim
  have hl2 : s.size < 9223372036854775807 := by unfold Fits at hs; omega
  have hrc := Lib.runeCount_le s
  have c1 := Tryd.utf8_RuneCountInString s w hl2
  have c2 : ∀ pos, Calls Tryd.prog 155 #[.string s] (w.alloc (.stringIter s pos)) _ := fun pos => Tryd.utf8_ValidString s (w.alloc (.stringIter s pos)) hl (Tabs.below hT ((Below.refl _ _).alloc (Nat.le_refl _) _))
  have hN : Hid (cntN s = if Lib.validD s.data.toList = true ∧ Lib.runeCount s ≤ 20000 then ((Lib.runeCount s : Nat) : Int) else 0) := rfl
  have hE : Hid (cntErr s = if Lib.validD s.data.toList = true ∧ Lib.runeCount s ≤ 20000 then 0 else 10) := rfl
  generalize cntN s = rn at hN ⊢
  generalize cntErr s = re at hE ⊢
  generalize Lib.runeCount s = n at c1 hrc hN hE
  generalize Lib.validD s.data.toList = v at c2 hN hE
  cases v with
  | true =>
    by_cases hn : n ≤ 20000
    · have hd : decide ((20000 : Int) < n) = false := by simp; omega
      have HN : Hid (rn = n) := by rw [Hid, hN.out, if_pos ⟨rfl, hn⟩]
      have HE : Hid (re = 0) := by rw [Hid, hE.out, if_pos ⟨rfl, hn⟩]
      clear hN hE
      go_enter Tryd.func108, Tryd.ntmps108
      go_wp2_with (first
        | (go_at_call 77; (with_reducible refine c1.mono ?_); rintro e w' ⟨rfl, pos, rfl⟩; unfold World.iter)
        | (go_at_call 155; (with_reducible refine (c2 _).mono ?_); rintro e w' ⟨rfl, hb⟩))
      go_ret2
      exact ⟨by rw [HN.out, HE.out]; rfl, ((Below.refl _ _).alloc (Nat.le_refl _) _).trans (hb.mono (by simp))⟩
    · have hd : decide ((20000 : Int) < n) = true := by simp; omega
      have HN : Hid (rn = 0) := by rw [Hid, hN.out, if_neg (by omega)]
      have HE : Hid (re = 10) := by rw [Hid, hE.out, if_neg (by omega)]
      clear hN hE
      go_enter Tryd.func108, Tryd.ntmps108
      go_wp2_with (first
        | (go_at_call 77; (with_reducible refine c1.mono ?_); rintro e w' ⟨rfl, pos, rfl⟩; unfold World.iter)
        | (go_at_call 155; (with_reducible refine (c2 _).mono ?_); rintro e w' ⟨rfl, hb⟩))
      go_ret2
      exact ⟨by rw [HN.out, HE.out]; rfl, ((Below.refl _ _).alloc (Nat.le_refl _) _).trans (hb.mono (by simp))⟩
  | false =>
    have HN : Hid (rn = 0) := by rw [Hid, hN.out, if_neg (by simp)]
    have HE : Hid (re = 10) := by rw [Hid, hE.out, if_neg (by simp)]
    clear hN hE
    go_enter Tryd.func108, Tryd.ntmps108
    go_wp2_with (first
      | (go_at_call 77; (with_reducible refine c1.mono ?_); rintro e w' ⟨rfl, pos, rfl⟩; unfold World.iter)
      | (go_at_call 155; (with_reducible refine (c2 _).mono ?_); rintro e w' ⟨rfl, hb⟩))
    go_ret2
    exact ⟨by rw [HN.out, HE.out]; rfl, ((Below.refl _ _).alloc (Nat.le_refl _) _).trans (hb.mono (by simp))⟩

def valEmpty (s : ByteArray) : Bool := s.toList.isEmpty
theorem right1_any (k v : ByteArray) (w : World) :
    Calls Tryd.prog 157 #[.agg #[.string k, .string v]] w fun e w' => e = .returned (.bool (valEmpty v)) ∧ Below w.heap.size w w' := by
  go_enter Tryd.func157, Tryd.ntmps157
  go_wp2
  go_ret
  exact ⟨rfl, (Below.refl _ _).alloc (Nat.le_refl _) _⟩

/-- The place of the first attribute without a value. -/
def idxEmpty (l : List Attr) : Int := match l.findIdx? (fun a => valEmpty a.val) with | some i => i | none => -1
theorem idxEmpty_yes {l : List Attr} (k : Nat) (hk : k < l.length) (h : ∀ j (hj : j < l.length), j < k → valEmpty l[j].val = false) (hv : valEmpty l[k].val = true) : idxEmpty l = k := by
  have : l.findIdx? (fun a => valEmpty a.val) = some k := by
    rw [List.findIdx?_eq_some_iff_getElem]
    exact ⟨hk, hv, fun j hj => by simpa using h j (by omega) hj⟩
  simp [idxEmpty, this]
theorem idxEmpty_no {l : List Attr} (h : ∀ j (hj : j < l.length), valEmpty l[j].val = false) : idxEmpty l = -1 := by
  have : l.findIdx? (fun a => valEmpty a.val) = none := by
    rw [List.findIdx?_eq_none_iff]
    intro x hx
    obtain ⟨j, hj, rfl⟩ := List.getElem_of_mem hx
    exact h j hj
  simp [idxEmpty, this]

set_option maxHeartbeats 2000000 in
theorem indexFunc_any (v : Value) (l : List Attr) (S : Nat → Prop) (w : World) (h : Rd KA S w v l) :
    Calls Tryd.prog 181 #[v, .func (.func 157) #[] #[]] w fun e w' => e = .returned (.int .i64 (idxEmpty l)) ∧ Below w.heap.size w w' := by
  obtain ⟨A, c, rfl, _, hr⟩ := h
  have hlen := hr.len
  go_enter Tryd.func181, Tryd.ntmps181
  go_wp2_with fail
  go_loopg [8] (l.length + 1) (fun g s8 wr => ∃ k : Nat, k ≤ l.length ∧ l.length - k < g ∧ s8 = .int .i64 k ∧ Below w.heap.size w wr ∧ Aside (∀ j (hj : j < l.length), j < k → valEmpty l[j].val = false))
  case atStart => exact ⟨0, Nat.zero_le _, by omega, rfl, Below.refl _ _, (show Aside _ from fun j h hj => absurd hj (Nat.not_lt_zero _))⟩
  case round =>
    obtain ⟨k, hk, hg, rfl, hb, Ad⟩ := hrel
    by_cases hlt : k < l.length
    · have hlz : (k : Int) < (l.length : Int) := by omega
      obtain ⟨b, o, rfl, hS, hbw, hc0, hc1, hf0, hf1⟩ := hr.attr k hlt
      have hd0 := (hb.cell (p := ⟨b, o + k * 2, none⟩) hbw).trans hc0
      have hd1 := (hb.cell (p := ⟨b, o + k * 2 + 1, none⟩) hbw).trans hc1
      have hcall := right1_any l[k].key l[k].val
      have HY : Hid (valEmpty l[k].val = true → idxEmpty l = k) := fun hv => idxEmpty_yes k hlt Ad hv
      have HN : Hid (valEmpty l[k].val = false → ∀ j (hj : j < l.length), j < k + 1 → valEmpty l[j].val = false) := fun hv j hj hjk => by
        by_cases e : j = k
        · subst e; exact hv
        · exact Ad j hj (by omega)
      generalize hkey : l[k].key = key at hc0 hd0 hf0 hcall
      generalize hval : l[k].val = val at hc1 hd1 hf1 hcall HY HN
      clear hc0 hc1 hkey hval Ad
      cases hve : valEmpty val with
      | true =>
        have H1 : Hid (idxEmpty l = k) := HY.out hve
        rw [hve] at hcall
        clear HY HN hve
        go_wp2_with (go_at_call 157; (with_reducible refine (hcall _).mono ?_); rintro e w' ⟨rfl, hb2⟩)
        go_ret
        exact ⟨by rw [H1.out]; rfl, hb.trans (hb2.mono hb.size)⟩
      | false =>
        have H1 : Aside (∀ j (hj : j < l.length), j < k + 1 → valEmpty l[j].val = false) := HN.out hve
        rw [hve] at hcall
        clear HY HN hve
        go_wp2_with (go_at_call 157; (with_reducible refine (hcall _).mono ?_); rintro e w' ⟨rfl, hb2⟩)
        go_roundg (l.length + 1 - (k + 1))
        case measure => omega
        case rel => exact ⟨k + 1, by omega, by omega, by go_num, hb.trans (hb2.mono hb.size), H1⟩
    · have hlz : ¬ (k : Int) < (l.length : Int) := by omega
      have H1 : Hid (idxEmpty l = -1) := idxEmpty_no fun j hj => Ad j hj (by omega)
      clear Ad
      go_wp2
      go_ret
      exact ⟨by rw [H1.out]; rfl, hb⟩

/-- Is there an attribute without a value? -/
def anyEmpty (l : List Attr) : Bool := decide (0 ≤ idxEmpty l)
theorem containsFunc_any (v : Value) (l : List Attr) (S : Nat → Prop) (w : World) (h : Rd KA S w v l) :
    Calls Tryd.prog 156 #[v, .func (.func 157) #[] #[]] w fun e w' => e = .returned (.bool (anyEmpty l)) ∧ Below w.heap.size w w' := by
  have c1 := indexFunc_any v l S w h
  go_enter Tryd.func156, Tryd.ntmps156
  go_wp2_with (go_at_call 181; (with_reducible refine c1.mono ?_); rintro e w' ⟨rfl, hb2⟩)
  go_ret
  exact ⟨rfl, hb2⟩

def rtErr (l : List Attr) : Int := if anyEmpty l then 20 else chErr l
theorem right_any (v : Value) (l : List Attr) (S : Nat → Prop) (w : World) (h : Rd KA S w v l) :
    Calls Tryd.prog 109 #[v] w fun e w' => e = .returned (.int .i64 (rtErr l)) ∧ Below w.heap.size w w' := by
  have c1 := containsFunc_any v l S w h
  cases hae : anyEmpty l with
  | true =>
    have H : Hid (rtErr l = 20) := by rw [Hid, rtErr, hae]; rfl
    rw [hae] at c1
    go_enter Tryd.func109, Tryd.ntmps109
    go_wp2_with (go_at_call 156; (with_reducible refine c1.mono ?_); rintro e w' ⟨rfl, hb2⟩)
    go_ret
    exact ⟨by rw [H.out]; rfl, hb2⟩
  | false =>
    have H : Hid (rtErr l = chErr l) := by rw [Hid, rtErr, hae]; rfl
    rw [hae] at c1
    go_enter Tryd.func109, Tryd.ntmps109
    go_wp2_with (first
      | (go_at_call 156; (with_reducible refine c1.mono ?_); rintro e w1 ⟨rfl, hb2⟩)
      | (go_at_call 138; (with_reducible refine (change_any v l S _ (h.below hb2)).mono ?_); rintro e w2 ⟨rfl, hb3⟩))
    go_ret
    exact ⟨by rw [H.out]; rfl, hb2.trans (hb3.mono hb2.size)⟩

end Go.Proofs.YtaemajcpgmaapaaDoor

namespace Go.Proofs.YtaemajcpgmaapaaDoor
open Go.RowKit

theorem attr_held : Tryd.prog.stoodInHeld 102 = false := by kernel_rfl
theorem attr_guard : Tryd.prog.eqGuardType Tryd.prog.depth 102 = false := by kernel_rfl
def attrSame (k v k' v' : ByteArray) : Bool := k.toList == k'.toList && v.toList == v'.toList
theorem toList_inj {a b : ByteArray} (h : a.toList = b.toList) : a = b := by
  rw [ByteArray.toList_eq, ByteArray.toList_eq] at h
  obtain ⟨⟨x⟩⟩ := a
  obtain ⟨⟨y⟩⟩ := b
  simp at h
  rw [h]
theorem attrSame_eq (a b : Attr) : attrSame a.key a.val b.key b.val = decide (a = b) := by
  rw [attrSame]
  by_cases h : a = b
  · subst h; simp
  · rw [decide_eq_false h]
    rw [Bool.and_eq_false_iff]
    by_cases hk : a.key = b.key
    · right
      refine beq_eq_false_iff_ne.2 fun e => h ?_
      cases a; cases b
      simp at hk
      have := toList_inj e
      simp at this
      simp [hk, this]
    · left
      exact beq_eq_false_iff_ne.2 fun e => hk (toList_inj e)
theorem attr_fieldsOf : Tryd.prog.fieldsOf 102 = #[{ name := "Key", type := 9, offset := 0, embedded := false, tag := "", pkgPath := "", byteOffset := 0 }, { name := "Value", type := 9, offset := 1, embedded := false, tag := "", pkgPath := "", byteOffset := 16 }] := by kernel_rfl
theorem neq_attr (k v k' v' : ByteArray) (w : World) : (binOp .neq 102 (.agg #[.string k, .string v]) (.agg #[.string k', .string v'])).run Tryd.prog w = .ok (.bool (!attrSame k v k' v')) w := by
  have hf : Tryd.prog.underlying 102 = some (.struct (Tryd.prog.fieldsOf 102)) := by kernel_rfl
  rw [run_neq_struct, run_equalIn_struct _ _ _ _ _ hf attr_held, attr_fieldsOf]
  simp only [Op.eqFields]
  have e1 := run_equalIn_string (P := Tryd.prog) w 9998 9 k k' Tryd.underlying9
  have e2 := run_equalIn_string (P := Tryd.prog) w 9998 9 v v' Tryd.underlying9
  generalize hx : (k.toList == k'.toList) = x at e1
  generalize hy : (v.toList == v'.toList) = y at e2
  cases x <;> cases y <;> simp [part, attrSame, e1, e2, hx, hy, Result.andThen]

def attrsEq (a b : List Attr) : Bool := decide (a = b)

set_option maxHeartbeats 2000000 in
theorem equal_any (v1 v2 : Value) (l1 l2 : List Attr) (S1 S2 : Nat → Prop) (w : World) (h1 : Rd KA S1 w v1 l1) (h2 : Rd KA S2 w v2 l2) :
    Calls Tryd.prog 147 #[v1, v2] w fun e w' => e = .returned (.bool (attrsEq l1 l2)) ∧ Below w.heap.size w w' := by
  obtain ⟨A1, c1, rfl, _, hr1⟩ := h1
  obtain ⟨A2, c2, rfl, _, hr2⟩ := h2
  have hlen1 := hr1.len
  have hlen2 := hr2.len
  by_cases hL : l1.length = l2.length
  · have HL := Lib.hid hL
    clear hL
    have hL2 : (l1.length : Int) ≤ l2.length := by have := HL.out; omega
    have hL3 : (l2.length : Int) ≤ l1.length := by have := HL.out; omega
    have hne : ((l1.length : Int) != (l2.length : Int)) = false := by have := HL.out; simp [this]
    go_enter Tryd.func147, Tryd.ntmps147
    go_wp2_with fail
    go_loopg [13] (l1.length + 1) (fun g s13 wr => ∃ k : Nat, k ≤ l1.length ∧ l1.length - k < g ∧ s13 = .int .i64 k ∧ Below w.heap.size w wr ∧ Aside (∀ j (hj : j < l1.length) (hj2 : j < l2.length), j < k → l1[j] = l2[j]))
    case atStart => exact ⟨0, Nat.zero_le _, by omega, rfl, Below.refl _ _, (show Aside _ from fun j h _ hj => absurd hj (Nat.not_lt_zero _))⟩
    case round =>
      obtain ⟨k, hk, hg, rfl, hb, Ad⟩ := hrel
      by_cases hlt : k < l1.length
      · have hlz : (k : Int) < (l1.length : Int) := by omega
        have hlz2 : (k : Int) < (l2.length : Int) := by omega
        obtain ⟨b1, o1, rfl, _, hbw1, hc0, hc1, _, _⟩ := hr1.attr k hlt
        obtain ⟨b2, o2, rfl, _, hbw2, hp0, hp1, _, _⟩ := hr2.attr k (by omega)
        have hd0 := (hb.cell (p := ⟨b1, o1 + k * 2, none⟩) hbw1).trans hc0
        have hd1 := (hb.cell (p := ⟨b1, o1 + k * 2 + 1, none⟩) hbw1).trans hc1
        have hq0 := (hb.cell (p := ⟨b2, o2 + k * 2, none⟩) hbw2).trans hp0
        have hq1 := (hb.cell (p := ⟨b2, o2 + k * 2 + 1, none⟩) hbw2).trans hp1
        clear hc0 hc1 hp0 hp1
        have hsame := attrSame_eq l1[k] l2[k]
        have hneq := neq_attr l1[k].key l1[k].val l2[k].key l2[k].val
        have hgd : ∀ (x y : Operand) (w : World), (eqGuard .neq 102 x y (.agg #[.string l1[k].key, .string l1[k].val]) (.agg #[.string l2[k].key, .string l2[k].val])).run Tryd.prog w = .ok () w := fun x y w => run_eqGuard_agg w _ _ x y _ _ attr_guard
        by_cases hs : l1[k] = l2[k]
        · rw [hsame, decide_eq_true hs] at hneq
          have HS : Aside (∀ j (hj : j < l1.length) (hj2 : j < l2.length), j < k + 1 → l1[j] = l2[j]) := fun j hj hj2 hjk => by
            by_cases e : j = k
            · subst e; exact hs
            · exact Ad j hj hj2 (by omega)
          clear hsame hs Ad
          generalize l1[k].key = ka at hd0 hneq hgd
          generalize l1[k].val = vala at hd1 hneq hgd
          generalize l2[k].key = kb at hq0 hneq hgd
          generalize l2[k].val = valb at hq1 hneq hgd
          go_wp2_with fail
          go_quiet (fail)
          go_wp2
          go_roundg (l1.length + 1 - (k + 1))
          case measure => omega
          case rel => exact ⟨k + 1, by omega, by omega, by go_num, below_drewN hb _, HS⟩
        · rw [hsame, decide_eq_false hs] at hneq
          have HS : Hid (attrsEq l1 l2 = false) := by
            refine decide_eq_false fun e => hs ?_
            subst e; rfl
          clear hsame hs Ad
          generalize l1[k].key = ka at hd0 hneq hgd
          generalize l1[k].val = vala at hd1 hneq hgd
          generalize l2[k].key = kb at hq0 hneq hgd
          generalize l2[k].val = valb at hq1 hneq hgd
          go_wp2_with fail
          go_quiet (fail)
          go_wp2
          go_ret
          exact ⟨by rw [HS.out]; rfl, below_drewN hb _⟩
      · have hlz : ¬ (k : Int) < (l1.length : Int) := by omega
        have HS : Hid (attrsEq l1 l2 = true) := decide_eq_true (List.ext_getElem HL.out fun j h1 h2 => Ad j h1 h2 (by omega))
        clear Ad
        go_wp2
        go_ret
        exact ⟨by rw [HS.out]; rfl, hb⟩
  · have hne : ((l1.length : Int) != (l2.length : Int)) = true := by simp; omega
    have HS : Hid (attrsEq l1 l2 = false) := decide_eq_false fun e => hL (by rw [e])
    clear hL
    go_enter Tryd.func147, Tryd.ntmps147
    go_wp2_with fail
    go_ret
    exact ⟨by rw [HS.out]; rfl, Below.refl _ _⟩

theorem same_any (v1 v2 : Value) (l1 l2 : List Attr) (S1 S2 : Nat → Prop) (w : World) (h1 : Rd KA S1 w v1 l1) (h2 : Rd KA S2 w v2 l2) :
    Calls Tryd.prog 98 #[v1, v2] w fun e w' => e = .returned (.bool (attrsEq l1 l2)) ∧ Below w.heap.size w w' := by
  have c1 := equal_any v1 v2 l1 l2 S1 S2 w h1 h2
  go_enter Tryd.func98, Tryd.ntmps98
  go_wp2_with (go_at_call 147; (with_reducible refine c1.mono ?_); rintro e w' ⟨rfl, hb2⟩)
  go_ret
  exact ⟨rfl, hb2⟩

end Go.Proofs.YtaemajcpgmaapaaDoor
