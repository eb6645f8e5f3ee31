/- How the data of the program read in memory: rows of structs, whose fields may be rows themselves. Plain definitions; frames. -/
import Derived.WalkKit
import Derived.Deep.Draws
namespace Go.Proofs.YtaemajcpgmaapaaDoor
open Go.RowKit

structure Attr where
  key : ByteArray
  val : ByteArray
  deriving DecidableEq, Inhabited

structure Op where
  kind : Int
  n : Int
  text : ByteArray
  attrs : List Attr
  deriving DecidableEq, Inhabited

structure Change where
  from_ : Int
  ops : List Op
  deriving DecidableEq, Inhabited

structure Run where
  text : ByteArray
  attrs : List Attr
  deriving DecidableEq, Inhabited

theorem below_drewN {B : Nat} {a w : World} (h : Below B a w) (n : Nat) : Below B a (w.drewN n) := ⟨h.os, h.tape, h.output, h.size, h.block⟩

/-- Behind a contract that lays blocks alone each old cell reads as it did. -/
theorem bcell {W w1 : World} (hb : Below W.heap.size W w1) : (∀ b o, b < W.heap.size → w1.cell? ⟨b, o, none⟩ = W.cell? ⟨b, o, none⟩) ∧ (∀ b o, b < W.heap.size → w1.frozen? ⟨b, o, none⟩ = W.frozen? ⟨b, o, none⟩) :=
  ⟨fun b o h => hb.cell (p := ⟨b, o, none⟩) h, fun b o h => hb.frozen (p := ⟨b, o, none⟩) h⟩

/-- A kind of element: how many cells it has, what they hold. -/
structure Kd (α : Type) where
  sz : Nat
  bytes : Nat
  bytesPos : 0 < bytes
  rep : (Nat → Prop) → World → α → List Value → Prop
  keep : ∀ {S w w' x cs}, (∀ k, S k → k < w.heap.size → w'.heap[k]? = w.heap[k]?) → rep S w x cs → rep S w' x cs
  imp : ∀ {S S' : Nat → Prop} {w x cs}, (∀ k, k < w.heap.size → S k → S' k) → rep S w x cs → rep S' w x cs

/-- A row of elements at an address. -/
def RdS {α : Type} (K : Kd α) (S : Nat → Prop) (w : World) (A : Option Addr) (l : List α) : Prop :=
  l.length * K.bytes ≤ 140737488355328 ∧ ∀ k (hk : k < l.length), ∃ b o cs, A = some ⟨b, o, none⟩ ∧ S b ∧ b < w.heap.size ∧ K.rep S w l[k] cs ∧
    ∀ j x, cs[j]? = some x → w.cell? ⟨b, o + k * K.sz + j, none⟩ = some x

/-- A slice value that reads as a row. -/
def Rd {α : Type} (K : Kd α) (S : Nat → Prop) (w : World) (v : Value) (l : List α) : Prop :=
  ∃ A c, v = .slice A l.length c ∧ ((A = none → c = 0) ∧ l.length ≤ c) ∧ RdS K S w A l

section
variable {α : Type} {K : Kd α} {S S' : Nat → Prop} {w w' : World} {A : Option Addr} {v : Value} {l : List α}
theorem RdS.len (h : RdS K S w A l) : l.length ≤ 140737488355328 := Nat.le_trans (Nat.le_mul_of_pos_right _ K.bytesPos) h.1
theorem RdS.keep (h : RdS K S w A l) (hs : w.heap.size ≤ w'.heap.size) (hk : ∀ k, S k → k < w.heap.size → w'.heap[k]? = w.heap[k]?) : RdS K S w' A l :=
  ⟨h.1, fun k hl => by
    obtain ⟨b, o, cs, e, hS, hb, hr, hc⟩ := h.2 k hl
    exact ⟨b, o, cs, e, hS, by omega, K.keep hk hr, fun j x hx => (World.cell?_of_block (hk b hS hb)).trans (hc j x hx)⟩⟩
theorem RdS.imp (h : RdS K S w A l) (hi : ∀ k, k < w.heap.size → S k → S' k) : RdS K S' w A l :=
  ⟨h.1, fun k hl => by
    obtain ⟨b, o, cs, e, hS, hb, hr, hc⟩ := h.2 k hl
    exact ⟨b, o, cs, e, hi b hb hS, hb, K.imp hi hr, hc⟩⟩
theorem Rd.keep (h : Rd K S w v l) (hs : w.heap.size ≤ w'.heap.size) (hk : ∀ k, S k → k < w.heap.size → w'.heap[k]? = w.heap[k]?) : Rd K S w' v l := by
  obtain ⟨A, c, e, hn, h⟩ := h
  exact ⟨A, c, e, hn, h.keep hs hk⟩
theorem Rd.imp (h : Rd K S w v l) (hi : ∀ k, k < w.heap.size → S k → S' k) : Rd K S' w v l := by
  obtain ⟨A, c, e, hn, h⟩ := h
  exact ⟨A, c, e, hn, h.imp hi⟩
theorem Rd.below (h : Rd K S w v l) (hb : Below w.heap.size w w') : Rd K S w' v l := h.keep hb.size fun k _ hk => hb.block k hk
/-- Whatever lies below B, or where nothing is written. -/
theorem Rd.belowB {B : Nat} (h : Rd K S w v l) (hS : ∀ k, S k → k < B) (hb : Below B w w') : Rd K S w' v l := h.keep hb.size fun k hk _ => hb.block k (hS k hk)
theorem Rd.grown {row : Option Nat} (h : Rd K S w v l) (hg : w.grownBy w' row) (hr : ∀ k, S k → some k ≠ row) : Rd K S w' v l := h.keep hg.size fun k hk hl => hg.block k hl (hr k hk)
theorem Rd.setCell (h : Rd K S w v l) {p : Addr} (u : Value) (hp : ∀ k, S k → k ≠ p.block) : Rd K S (w.setCell p u) v l :=
  h.keep (by simp [World.setCell]) fun k hk _ => Below.heap_setCell w p u k (hp k hk)
theorem Rd.nil (K : Kd α) (S : Nat → Prop) (w : World) (A : Option Addr) (c : Nat) (hc : A = none → c = 0) : Rd K S w (.slice A 0 c) [] := ⟨A, c, rfl, ⟨hc, by simp⟩, by simp, fun k hk => absurd hk (by simp)⟩
theorem Rd.len (h : Rd K S w v l) : l.length ≤ 140737488355328 := by
  obtain ⟨_, _, _, _, h⟩ := h
  exact h.len
end

/-- A text that is no longer than memory allows. -/
def Fits (s : ByteArray) : Prop := s.size ≤ 140737488355328
theorem Fits.lim {s : ByteArray} (h : Fits s) : s.size ≤ 9223372036854775807 := by unfold Fits at h; omega

/-- An attribute: two strings. -/
def KA : Kd Attr where
  sz := 2
  bytes := 32
  bytesPos := by decide
  rep := fun _ _ a cs => cs = [.string a.key, .string a.val] ∧ Fits a.key ∧ Fits a.val
  keep := fun _ h => h
  imp := fun _ h => h

/-- An operation. -/
def KO : Kd Op where
  sz := 4
  bytes := 56
  bytesPos := by decide
  rep := fun S w o cs => ∃ va, cs = [.int .i64 o.kind, .int .i64 o.n, .string o.text, va] ∧ Rd KA S w va o.attrs ∧ Fits o.text
  keep := fun {S w w' x cs} hk h => by
    obtain ⟨va, e, h, hf⟩ := h
    obtain ⟨A, c, e2, hn, h⟩ := h
    refine ⟨va, e, ⟨A, c, e2, hn, h.1, fun k hl => ?_⟩, hf⟩
    obtain ⟨b, o, cs, e, hS, hb, hr, hc⟩ := h.2 k hl
    have hz := hk b hS hb
    exact ⟨b, o, cs, e, hS, (by
      rcases Nat.lt_or_ge b w'.heap.size with h' | h'
      · exact h'
      · rw [Array.getElem?_eq_none h', Array.getElem?_eq_getElem hb] at hz
        cases hz), hr, fun j x hx => (World.cell?_of_block hz).trans (hc j x hx)⟩
  imp := fun hi h => by
    obtain ⟨va, e, h, hf⟩ := h
    exact ⟨va, e, h.imp hi, hf⟩

/-- A run of a document. -/
def KR : Kd Run where
  sz := 2
  bytes := 40
  bytesPos := by decide
  rep := fun S w o cs => ∃ va, cs = [.string o.text, va] ∧ Rd KA S w va o.attrs ∧ Fits o.text
  keep := fun {S w w' x cs} hk h => by
    obtain ⟨va, e, h, hf⟩ := h
    obtain ⟨A, c, e2, hn, h⟩ := h
    refine ⟨va, e, ⟨A, c, e2, hn, h.1, fun k hl => ?_⟩, hf⟩
    obtain ⟨b, o, cs, e, hS, hb, hr, hc⟩ := h.2 k hl
    have hz := hk b hS hb
    exact ⟨b, o, cs, e, hS, (by
      rcases Nat.lt_or_ge b w'.heap.size with h' | h'
      · exact h'
      · rw [Array.getElem?_eq_none h', Array.getElem?_eq_getElem hb] at hz
        cases hz), hr, fun j x hx => (World.cell?_of_block hz).trans (hc j x hx)⟩
  imp := fun hi h => by
    obtain ⟨va, e, h, hf⟩ := h
    exact ⟨va, e, h.imp hi, hf⟩

section
variable {S : Nat → Prop} {w : World} {A : Option Addr}
theorem RdS.attr {l : List Attr} (h : RdS KA S w A l) (k : Nat) (hk : k < l.length) :
    ∃ b o, A = some ⟨b, o, none⟩ ∧ S b ∧ b < w.heap.size ∧ w.cell? ⟨b, o + k * 2, none⟩ = some (.string l[k].key) ∧ w.cell? ⟨b, o + k * 2 + 1, none⟩ = some (.string l[k].val) ∧ Fits l[k].key ∧ Fits l[k].val := by
  obtain ⟨b, o, cs, e, hS, hb, hr, hc⟩ := h.2 k hk
  obtain ⟨rfl, hf⟩ : cs = _ ∧ _ := hr
  exact ⟨b, o, e, hS, hb, hc 0 _ rfl, hc 1 _ rfl, hf⟩
theorem RdS.op {l : List Op} (h : RdS KO S w A l) (k : Nat) (hk : k < l.length) :
    ∃ b o va, A = some ⟨b, o, none⟩ ∧ S b ∧ b < w.heap.size ∧ w.cell? ⟨b, o + k * 4, none⟩ = some (.int .i64 l[k].kind) ∧ w.cell? ⟨b, o + k * 4 + 1, none⟩ = some (.int .i64 l[k].n)
      ∧ w.cell? ⟨b, o + k * 4 + 2, none⟩ = some (.string l[k].text) ∧ w.cell? ⟨b, o + k * 4 + 3, none⟩ = some va ∧ Rd KA S w va l[k].attrs ∧ Fits l[k].text := by
  obtain ⟨b, o, cs, e, hS, hb, hr, hc⟩ := h.2 k hk
  obtain ⟨va, rfl, hv⟩ : ∃ va, cs = _ ∧ _ := hr
  exact ⟨b, o, va, e, hS, hb, hc 0 _ rfl, hc 1 _ rfl, hc 2 _ rfl, hc 3 _ rfl, hv⟩
/-- The same, the attributes' slice laid open. -/
theorem RdS.ops {l : List Op} (h : RdS KO S w A l) (k : Nat) (hk : k < l.length) :
    ∃ b o A2 c2, A = some ⟨b, o, none⟩ ∧ S b ∧ b < w.heap.size ∧ w.cell? ⟨b, o + k * 4, none⟩ = some (.int .i64 l[k].kind) ∧ w.cell? ⟨b, o + k * 4 + 1, none⟩ = some (.int .i64 l[k].n)
      ∧ w.cell? ⟨b, o + k * 4 + 2, none⟩ = some (.string l[k].text) ∧ w.cell? ⟨b, o + k * 4 + 3, none⟩ = some (.slice A2 l[k].attrs.length c2) ∧ Rd KA S w (.slice A2 l[k].attrs.length c2) l[k].attrs ∧ Fits l[k].text := by
  obtain ⟨b, o, va, e, hS, hb, h0, h1, h2, h3, hv, hf⟩ := h.op k hk
  obtain ⟨A2, c2, rfl, hx⟩ := hv
  exact ⟨b, o, A2, c2, e, hS, hb, h0, h1, h2, h3, ⟨A2, c2, rfl, hx⟩, hf⟩
theorem RdS.runs {l : List Run} (h : RdS KR S w A l) (k : Nat) (hk : k < l.length) :
    ∃ b o A2 c2, A = some ⟨b, o, none⟩ ∧ S b ∧ b < w.heap.size ∧ w.cell? ⟨b, o + k * 2, none⟩ = some (.string l[k].text) ∧ w.cell? ⟨b, o + k * 2 + 1, none⟩ = some (.slice A2 l[k].attrs.length c2) ∧ Rd KA S w (.slice A2 l[k].attrs.length c2) l[k].attrs ∧ Fits l[k].text := by
  obtain ⟨b, o, cs, e, hS, hb, hr, hc⟩ := h.2 k hk
  obtain ⟨va, rfl, hv, hf⟩ : ∃ va, cs = _ ∧ _ := hr
  obtain ⟨A2, c2, rfl, hx⟩ := hv
  exact ⟨b, o, A2, c2, e, hS, hb, hc 0 _ rfl, hc 1 _ rfl, ⟨A2, c2, rfl, hx⟩, hf⟩
theorem RdS.run {l : List Run} (h : RdS KR S w A l) (k : Nat) (hk : k < l.length) :
    ∃ b o va, A = some ⟨b, o, none⟩ ∧ S b ∧ b < w.heap.size ∧ w.cell? ⟨b, o + k * 2, none⟩ = some (.string l[k].text) ∧ w.cell? ⟨b, o + k * 2 + 1, none⟩ = some va ∧ Rd KA S w va l[k].attrs ∧ Fits l[k].text := by
  obtain ⟨b, o, cs, e, hS, hb, hr, hc⟩ := h.2 k hk
  obtain ⟨va, rfl, hv⟩ : ∃ va, cs = _ ∧ _ := hr
  exact ⟨b, o, va, e, hS, hb, hc 0 _ rfl, hc 1 _ rfl, hv⟩
end

end Go.Proofs.YtaemajcpgmaapaaDoor
