/- Rows of the call's own: attributes, operations. | attrs.merge: two rising rows as one, by whatever function picks. -/
import Derived.Test.YtaemajcpgmaapaaDoorPkA
import Derived.Laws.OwnMore
import Derived.OwnWalk
import Derived.Laws.AppendOwnNone
import Derived.Deep.AppendLies
import Derived.Deep.RegionHeld3
import Derived.Deep.MidRow
import Derived.Deep.DeepCutAuto
namespace Go.Proofs.YtaemajcpgmaapaaDoor
open Go.RowKit

def acells (l : List Attr) : List Value := l.flatMap fun a => [.string a.key, .string a.val]
def AFits (l : List Attr) : Prop := ∀ a ∈ l, Fits a.key ∧ Fits a.val
/-- Attributes in memory that the call itself has made. -/
def OwnA (lo : Nat) (w : World) (v : Value) (l : List Attr) : Prop := w.ownsRow lo 102 2 v l.length (acells l) ∧ AFits l ∧ l.length * 32 ≤ 140737488355328

theorem acells_length (l : List Attr) : (acells l).length = l.length * 2 := by
  induction l with
  | nil => rfl
  | cons a l ih => simp only [acells, List.flatMap_cons, List.length_append, List.length_cons, List.length_nil] at *; omega
theorem acells_at (l : List Attr) (k : Nat) (hk : k < l.length) : (acells l)[k * 2]? = some (.string l[k].key) ∧ (acells l)[k * 2 + 1]? = some (.string l[k].val) := by
  induction l generalizing k with
  | nil => simp at hk
  | cons a l ih =>
    cases k with
    | zero => exact ⟨rfl, rfl⟩
    | succ k =>
      have := ih k (by simpa using hk)
      have e1 : (k + 1) * 2 = (k * 2) + 1 + 1 := by omega
      simp only [acells, List.flatMap_cons] at this ⊢
      rw [e1]
      simpa using this
theorem acells_append (l m : List Attr) : acells (l ++ m) = acells l ++ acells m := by simp [acells]

theorem OwnA.nil (lo : Nat) (w : World) : OwnA lo w (.slice none 0 0) [] := ⟨⟨by simp [acells], .inl ⟨rfl, rfl⟩⟩, by simp [AFits], by simp⟩
theorem OwnA.rd {lo : Nat} {w : World} {v : Value} {l : List Attr} (h : OwnA lo w v l) : Rd KA (fun k => lo ≤ k) w v l := by
  obtain ⟨⟨h1, h2⟩, hf, hl⟩ := h
  rcases h2 with ⟨rfl, h0⟩ | ⟨g, cap, cur, rfl, hg, hh, hn, hm, hs, ht⟩
  · obtain rfl : l = [] := List.eq_nil_of_length_eq_zero h0
    exact Rd.nil _ _ _ _ _ (by simp)
  · refine ⟨_, cap, rfl, ⟨by simp, hn⟩, hl, fun k hk => ⟨g, 0, _, rfl, hg, (Array.getElem?_eq_some_iff.1 hh).1, ⟨rfl, hf _ (List.getElem_mem hk)⟩, fun j x hx => ?_⟩⟩
    have ha := acells_at l k hk
    rw [← ht] at ha
    have hsz : cur.size = cap * 2 := hs
    show w.cell? ⟨g, 0 + k * 2 + j, none⟩ = some x
    rw [Nat.zero_add, cell_of_row w g _ cur _ (0, 0) hh, ← Array.getElem?_toList]
    match j, hx with
    | 0, hx =>
      simp at hx
      have h := ha.1
      rw [List.getElem?_take_of_lt (by omega)] at h
      rw [← hx]; exact h
    | 1, hx =>
      simp at hx
      have h := ha.2
      rw [List.getElem?_take_of_lt (by omega)] at h
      rw [← hx]; exact h
    | j + 2, hx => simp at hx
theorem OwnA.kept {lo : Nat} {w w' : World} {v : Value} {l : List Attr} {row : Option Nat} (h : OwnA lo w v l) (hg : w.grownBy w' row) (hne : v.ownBlock = none ∨ v.ownBlock ≠ row) : OwnA lo w' v l := ⟨h.1.kept hg hne, h.2⟩
theorem grownBy_below {w w' : World} (h : Below w.heap.size w w') (row : Option Nat) : w.grownBy w' row := ⟨h.os, h.tape, h.output, h.size, fun k hk _ => h.block k hk⟩
theorem OwnA.below {lo : Nat} {w w' : World} {v : Value} {l : List Attr} (h : OwnA lo w v l) (hb : Below w.heap.size w w') : OwnA lo w' v l := h.kept (grownBy_below hb none) (by cases v.ownBlock <;> simp)
theorem OwnA.mono {lo lo' : Nat} {w : World} {v : Value} {l : List Attr} (h : OwnA lo w v l) (hl : lo' ≤ lo) : OwnA lo' w v l := by
  obtain ⟨⟨h1, h2⟩, hf⟩ := h
  refine ⟨⟨h1, ?_⟩, hf⟩
  rcases h2 with h2 | ⟨g, cap, cur, e, hg, r⟩
  · exact .inl h2
  · exact .inr ⟨g, cap, cur, e, by omega, r⟩

theorem infoAttr : (Tryd.prog.info? 102).map (fun i => (i.zero, i.size, i.bytes)) = some (some (.agg #[.string ⟨#[]⟩, .string ⟨#[]⟩]), 2, 32) := by kernel_rfl

theorem Rd.fitsA {S : Nat → Prop} {w : World} {v : Value} {l : List Attr} (h : Rd KA S w v l) : AFits l := by
  obtain ⟨A, c, _, _, h⟩ := h
  intro a ha
  obtain ⟨k, hk, rfl⟩ := List.getElem_of_mem ha
  obtain ⟨b, o, _, _, _, _, _, h1, h2⟩ := h.attr k hk
  exact ⟨h1, h2⟩
theorem acells_one (l : List Attr) : ∀ u ∈ acells l, u.oneCell' = true := by
  intro u hu
  simp only [acells, List.mem_flatMap] at hu
  obtain ⟨a, _, hu⟩ := hu
  simp at hu
  rcases hu with rfl | rfl <;> rfl
theorem acells_from {S : Nat → Prop} {w : World} {b o : Nat} {sp : Option Nat} {l : List Attr} (h : RdS KA S w (some ⟨b, o, sp⟩) l) :
    ∀ j u, (acells l)[j]? = some u → w.cell? ((⟨b, o, sp⟩ : Addr).add j) = some u := by
  intro j u hu
  have hj : j < l.length * 2 := by
    have := (List.getElem?_eq_some_iff.1 hu).1
    rwa [acells_length] at this
  obtain ⟨b', o', e, _, _, h0, h1, _⟩ := h.attr (j / 2) (by omega)
  simp only [Option.some.injEq, Addr.mk.injEq] at e
  obtain ⟨rfl, rfl, rfl⟩ := e
  have ha := acells_at l (j / 2) (by omega)
  rw [Addr.add_lit]
  rcases Nat.mod_two_eq_zero_or_one j with hm | hm
  · have hjj : j / 2 * 2 = j := by omega
    rw [hjj] at ha h0
    rw [h0, ← ha.1, hu]
  · have hjj : j / 2 * 2 + 1 = j := by omega
    rw [hjj] at ha
    rw [Nat.add_assoc, hjj] at h1
    rw [h1, ← ha.2, hu]

section
variable {ops : Array Oper} {rest : List Oper} {o : Oper} {a : Act} {Q : Exit → Act → World → Prop} {w : World}
/-- append of attributes that are read, behind such as are the call's own. -/
theorem wpList_append_attrs (hgd : o.guard = none) (s x : Operand) (ho : o.op = .call { callee := .builtin .append, args := #[s, x], argTypes := #[28, 28] })
    (base : Nat) (v src : Value) (m l : List Attr) (S : Nat → Prop) (hs : a.eval s = v) (hx : a.eval x = src) (hown : w.ownsRow base 102 2 v m.length (acells m)) (hr : Rd KA S w src l)
    (hb : (m.length + l.length) * 32 ≤ 140737488355328) (hbase : base ≤ w.heap.size)
    (h : ∀ v' w', w'.ownsRow base 102 2 v' (m ++ l).length (acells (m ++ l)) → w.grownBy w' v.ownBlock → wpList Tryd.prog ops Q rest (a.put o.dst v') w') : wpList Tryd.prog ops Q (o :: rest) a w := by
  obtain ⟨i, hi, hz0, hz1, hz2⟩ := info_parts infoAttr
  obtain ⟨A, c, rfl, hn, hr⟩ := hr
  cases A with
  | none =>
    have hl : l = [] := by
      rcases l with _ | ⟨y, l⟩
      · rfl
      · obtain ⟨_, _, e, _⟩ := hr.attr 0 (by simp)
        cases e
    subst hl
    obtain rfl : c = 0 := hn.1 rfl
    exact wpList_append_own_none hgd s x _ ho base _ i 2 Tryd.underlying28 hi v _ _ hs hown hx (h _ _ (by simpa using hown) (World.grownBy.refl _ _))
  | some ad =>
    obtain ⟨b, o', sp⟩ := ad
    refine wpList_append_own w hgd s x _ ho base _ i _ 2 32 Tryd.underlying28 hi hz0 hz1 hz2 rfl (by decide) v _ _ hs hown ⟨b, o', sp⟩ l.length c (acells l) hx (acells_length l) (acells_from hr) (acells_one l)
      (by unfold maxLen; omega) hb hbase ?_
    intro v' w' h1 h2 _
    exact h v' w' (by simpa [acells_append] using h1) h2
/-- append of one attribute, behind such as are the call's own. -/
theorem wpList_append_attr1 (hgd : o.guard = none) (s x : Operand) (ho : o.op = .call { callee := .builtin .append, args := #[s, x], argTypes := #[28, 28] })
    (base : Nat) (v : Value) (m : List Attr) (k1 v1 : ByteArray) (B : Nat) (hs : a.eval s = v) (hx : a.eval x = .slice (some ⟨B, 0, none⟩) 1 1) (hB : B = w.heap.size) (hown : w.ownsRow base 102 2 v m.length (acells m))
    (hb : (m.length + 1) * 32 ≤ 140737488355328) (hbase : base ≤ w.heap.size)
    (h : ∀ v' w', w'.ownsRow base 102 2 v' (m ++ [({ key := k1, val := v1 } : Attr)]).length (acells (m ++ [({ key := k1, val := v1 } : Attr)])) → w.grownBy w' v.ownBlock → wpList Tryd.prog ops Q rest (a.put o.dst v') w') :
    wpList Tryd.prog ops Q (o :: rest) a (w.alloc (.cells #[.string k1, .string v1] 102)) := by
  obtain ⟨i, hi, hz0, hz1, hz2⟩ := info_parts infoAttr
  subst hB
  refine wpList_append_own _ hgd s x _ ho base _ i _ 2 32 Tryd.underlying28 hi hz0 hz1 hz2 rfl (by decide) v _ _ hs (hown.alloc _) ⟨w.heap.size, 0, none⟩ 1 1 [.string k1, .string v1] hx rfl
    (World.news_of_block (cs := #[.string k1, .string v1]) (t := 102) (fr := (0, 0)) (heap_alloc_new w _)) (by simp [Value.oneCell']) (by unfold maxLen; omega) hb (by simp; omega) ?_
  intro v' w' h1 h2 _
  exact h v' w' (by simpa [acells_append, acells] using h1) (World.grownBy.trans (World.grownBy_alloc w _ _) h2)
/-- append of attributes to none. -/
theorem wpList_append_attrs0 (hgd : o.guard = none) (s x : Operand) (ho : o.op = .call { callee := .builtin .append, args := #[s, x], argTypes := #[28, 28] })
    (l : List Attr) (S : Nat → Prop) (hs : a.eval s = .slice none 0 0) {src : Value} (hx : a.eval x = src) (hr : Rd KA S w src l)
    (h : ∀ v' w', Below w.heap.size w w' → OwnA w.heap.size w' v' l → wpList Tryd.prog ops Q rest (a.put o.dst v') w') : wpList Tryd.prog ops Q (o :: rest) a w := by
  have hlen : l.length * 32 ≤ 140737488355328 := by
    obtain ⟨_, _, _, _, h⟩ := hr
    exact h.1
  refine wpList_append_attrs hgd s x ho w.heap.size (.slice none 0 0) src [] l S hs hx (OwnA.nil _ _).1 hr (by simpa using hlen) (Nat.le_refl _) fun v' w' h1 h2 => ?_
  exact h v' w' ⟨h2.os, h2.tape, h2.output, h2.size, fun k hk => h2.block k hk (by simp [Value.ownBlock])⟩ ⟨by simpa using h1, hr.fitsA, hlen⟩
end

set_option maxHeartbeats 2000000 in
theorem clone_any (v : Value) (l : List Attr) (S : Nat → Prop) (w : World) (h : Rd KA S w v l) :
    Calls Tryd.prog 146 #[v] w fun e w' => ∃ v', e = .returned v' ∧ Below w.heap.size w w' ∧ OwnA w.heap.size w' v' l := by
  have hfit := h.fitsA
  have hr0 := fun ob => h.below ((Below.refl w.heap.size w).alloc (Nat.le_refl _) ob)
  obtain ⟨A, c, rfl, hn, hr⟩ := h
  have hlen := hr.1
  cases A with
  | none =>
    have hl : l = [] := by
      rcases l with _ | ⟨y, l⟩
      · rfl
      · obtain ⟨_, _, e, _⟩ := hr.attr 0 (by simp)
        cases e
    subst hl
    obtain rfl : c = 0 := hn.1 rfl
    have q1 := fun (w : World) => Lib.run_eql_slice_nil w 28 102 none 0 0 0 0 Tryd.underlying28
    clear hr0 hn hlen hfit
    go_enter Tryd.func146, Tryd.ntmps146
    go_wp2_with fail
    go_ret
    exact ⟨_, rfl, Below.refl _ _, OwnA.nil _ _⟩
  | some ad =>
    have q1 := fun (w : World) => Lib.run_eql_slice_nil w 28 102 (some ad) l.length c 0 0 Tryd.underlying28
    simp only [Option.isNone_some] at q1
    clear hn
    go_enter Tryd.func146, Tryd.ntmps146
    go_wp2_with (at_builtin; refine wpList_append_attrs rfl _ _ rfl w.heap.size (.slice (some ⟨w.heap.size, 0, none⟩) 0 0) _ [] l S rfl rfl (World.ownsRow_made w #[] 0 (Nat.le_refl _) (by simp [maxLen]) rfl) (hr0 _) (by simpa [KA] using hlen) (by simp) ?_; intro v' w1 hown hg)
    go_ret
    exact ⟨_, rfl, ((Below.refl _ _).alloc (Nat.le_refl _) _).grown hg (by simp) (by simp [Value.ownBlock]), ⟨by simpa using hown, hfit, hlen⟩⟩

end Go.Proofs.YtaemajcpgmaapaaDoor

namespace Go.Proofs.YtaemajcpgmaapaaDoor
open Go.RowKit

theorem Rd.old {α : Type} {K : Kd α} {S : Nat → Prop} {w : World} {v : Value} {l : List α} (h : Rd K S w v l) : Rd K (fun k => k < w.heap.size) w v l := h.imp fun _ hk _ => hk

/-- A pointer to an attribute, or none. -/
def PtrA (W : World) (p : Value) : Option Attr → Prop
  | none => p = .pointer none
  | some a => ∃ b o, p = .pointer (some ⟨b, o, none⟩) ∧ b < W.heap.size ∧ W.cell? ⟨b, o, none⟩ = some (.string a.key) ∧ W.cell? ⟨b, o + 1, none⟩ = some (.string a.val)

def ltKey (a b : Attr) : Bool := Op.bytesLess a.key.toList b.key.toList
def picked (r : Attr × Bool) : List Attr := if r.2 then [r.1] else []
def mergeL (pk : Option Attr → Option Attr → Attr × Bool) : List Attr → List Attr → List Attr
  | [], [] => []
  | x :: a, [] => picked (pk (some x) none) ++ mergeL pk a []
  | [], y :: b => picked (pk none (some y)) ++ mergeL pk [] b
  | x :: a, y :: b =>
    if ltKey x y then picked (pk (some x) none) ++ mergeL pk a (y :: b)
    else if ltKey y x then picked (pk none (some y)) ++ mergeL pk (x :: a) b
    else picked (pk (some x) (some y)) ++ mergeL pk a b
termination_by a b => a.length + b.length

def PickAt (g : Nat) (lb : Array Value) (w0 : World) (pk : Option Attr → Option Attr → Attr × Bool) : Prop :=
  ∀ (W : World) (px py : Value) (x y : Option Attr), Below w0.heap.size w0 W → PtrA W px x → PtrA W py y → (x.isSome || y.isSome) = true →
    Calls Tryd.prog g (#[px, py] ++ lb) W fun e W' => e = .returned (.tuple #[.agg #[.string (pk x y).1.key, .string (pk x y).1.val], .bool (pk x y).2]) ∧ Below W.heap.size W W'

def PickFits (pk : Option Attr → Option Attr → Attr × Bool) : Prop :=
  ∀ x y, (∀ a, x = some a → Fits a.key ∧ Fits a.val) → (∀ a, y = some a → Fits a.key ∧ Fits a.val) → Fits (pk x y).1.key ∧ Fits (pk x y).1.val

theorem key_any (k v : ByteArray) (w : World) :
    Calls Tryd.prog 140 #[.agg #[.string k, .string v]] w fun e w' => e = .returned (.string k) ∧ w.alloc (.cells #[.string k, .string v] 102) = w' := by
  go_enter Tryd.func140, Tryd.ntmps140
  go_wp2
  go_ret
  exact ⟨rfl, rfl⟩

theorem OwnA.row {lo : Nat} {w : World} {v : Value} {l : List Attr} (h : OwnA lo w v l) : ∀ k, v.ownBlock = some k → lo ≤ k := fun k hk => (h.1.lt k hk).1
/-- Behind an append to the call's own row what lay below it reads as it did. -/
theorem Rd.append {α : Type} {K : Kd α} {B : Nat} {w w1 w' : World} {v u : Value} {l : List α} {m : List Attr} (h : Rd K (fun k => k < B) w v l) (hb : Below w.heap.size w w1) (hg : w1.grownBy w' u.ownBlock) (ho : OwnA B w u m) : Rd K (fun k => k < B) w' v l :=
  (h.below hb).grown hg fun k hk e => by have := ho.row k e.symm; omega

/-- What s[1:] comes to: an address that is told by what lies there. -/
theorem tailA (w : World) (b o : Nat) (x : Attr) (l : List Attr) (c : Nat) (S : Nat → Prop) (hr : RdS KA S w (some ⟨b, o, none⟩) (x :: l)) (hc : l.length + 1 ≤ c) :
    ∃ A' c', (∀ W, (Instr.slice 28 (.slice (some ⟨b, o, none⟩) (l.length + 1) c) (some (.int .i64 1)) none none).run Tryd.prog W = .ok (.slice A' l.length c') W) ∧ Rd KA S w (.slice A' l.length c') l := by
  have hlen : l.length * 32 ≤ 140737488355328 := by
    have := hr.1
    simp only [List.length_cons, KA] at this
    omega
  by_cases h1 : c = 1
  · refine ⟨some ⟨b, o, none⟩, c - 1, fun W => by simp [go_sem, h1]; intro h; omega, ?_⟩
    have hl : l = [] := List.eq_nil_of_length_eq_zero (by omega)
    subst hl
    exact Rd.nil _ _ _ _ _ (by simp)
  · refine ⟨some ⟨b, o + 2, none⟩, c - 1, fun W => by simp [go_sem, h1]; intro h; omega, ?_⟩
    refine ⟨_, _, rfl, ⟨by simp, by omega⟩, hlen, fun k hk => ?_⟩
    obtain ⟨b', o', cs, e, hS, hb, hrep, hcell⟩ := hr.2 (k + 1) (by simpa using hk)
    simp only [Option.some.injEq, Addr.mk.injEq] at e
    obtain ⟨rfl, rfl, _⟩ := e
    refine ⟨b, o + 2, cs, rfl, hS, hb, by simpa using hrep, fun j x hx => ?_⟩
    have := hcell j x hx
    simp only [KA] at this ⊢
    rw [show o + 2 + k * 2 + j = o + (k + 1) * 2 + j from by omega]
    exact this

set_option maxRecDepth 100000 in
set_option maxHeartbeats 4000000 in
theorem merge_any (v1 v2 : Value) (l1 l2 : List Attr) (S1 S2 : Nat → Prop) (g : Nat) (lb : Array Value) (pk : Option Attr → Option Attr → Attr × Bool) (w : World) (h1 : Rd KA S1 w v1 l1) (h2 : Rd KA S2 w v2 l2)
    (n1 : l1.length ≤ 8) (n2 : l2.length ≤ 8) (hpk : PickAt g lb w pk) (eg : ∀ args w, (callFunc g args).run Tryd.prog w = .ok (.enter g args) w) (hfit : PickFits pk) :
    Calls Tryd.prog 139 #[v1, v2, .func (.func 140) #[] #[], .func (.func g) #[] lb] w fun e w' => ∃ v', e = .returned v' ∧ Below w.heap.size w w' ∧ OwnA w.heap.size w' v' (mergeL pk l1 l2) := by
  have h1 := h1.old
  have h2 := h2.old
  go_enter Tryd.func139, Tryd.ntmps139
  go_wp2_with fail
  go_loopg [0, 1, 9] (l1.length + l2.length + 1) (fun gk s0 s1 s9 wr => ∃ la lb out, Rd KA (fun k => k < w.heap.size) wr s0 la ∧ Rd KA (fun k => k < w.heap.size) wr s1 lb ∧ OwnA w.heap.size wr s9 out ∧ Below w.heap.size w wr ∧ la.length + lb.length < gk ∧ out.length + la.length + lb.length ≤ 16 ∧ Aside (mergeL pk l1 l2 = out ++ mergeL pk la lb))
  case atStart => exact ⟨l1, l2, [], h1, h2, OwnA.nil _ _, Below.refl _ _, by omega, by simp; omega, (show Aside _ from (List.nil_append _).symm)⟩
  case round =>
    obtain ⟨la, lc, out, ⟨A1, c1, rfl, hn1, hr1⟩, ⟨A2, c2, rfl, hn2, hr2⟩, hown, hb, hg, hlen, Am⟩ := hrel
    clear h1 h2
    rcases la with _ | ⟨x, la⟩
    · rcases lc with _ | ⟨y, lc⟩
      · have HM : Hid (mergeL pk l1 l2 = out) := by rw [Hid, Am]; simp [mergeL]
        clear Am
        simp only [List.length_nil]
        go_wp2
        go_ret
        exact ⟨_, rfl, hb, by rw [HM.out]; exact hown⟩
      · obtain ⟨b, o, rfl, hS, hbw, hd0, hd1, hf0, hf1⟩ := hr2.attr 0 (by simp)
        simp only [List.getElem_cons_zero, Nat.zero_mul, Nat.add_zero] at hd0 hd1 hf0 hf1
        obtain ⟨A2, c2', hsl, hr2'⟩ := tailA wr b o y lc c2 _ hr2 hn2.2
        have hlc : lc.length + 1 ≤ c2 := hn2.2
        have hq1 : ((lc.length : Int) + 1 == 0) = false := by rw [beq_eq_false_iff_ne]; omega
        have hcall := fun W hW hy => hpk W (.pointer none) (.pointer (some ⟨b, o, none⟩)) none (some y) hW rfl ⟨b, o, rfl, hy⟩ rfl
        have HM : Hid (mergeL pk l1 l2 = (out ++ picked (pk none (some y))) ++ mergeL pk [] lc) := by rw [Hid, Am]; simp [mergeL]
        have HF : Fits (pk none (some y)).1.key ∧ Fits (pk none (some y)).1.val := hfit none (some y) (by simp) (by simp; exact ⟨hf0, hf1⟩)
        have hlen' : out.length + lc.length + 1 ≤ 16 := by simp at hlen; omega
        have hbs := hb.size
        have hg' : lc.length + 1 < gk := by simp at hg; omega
        have H1 : Rd KA (fun k => k < w.heap.size) wr (.slice A1 0 c1) [] := ⟨A1, c1, rfl, hn1, hr1⟩
        clear Am hr2 hn2 hlen hg hpk hfit hr1 hn1
        generalize hr : pk none (some y) = r at hcall HM HF
        clear hr
        obtain ⟨⟨rk, rv⟩, r2⟩ := r
        simp only [List.length_nil, List.length_cons]
        cases r2 with
        | false =>
          go_wp2_with fail
          go_quiet (fail)
          go_wp2_with fail
          go_quiet (fail)
          go_wp2_with fail
          go_quiet (fail)
          go_wp2_with (go_at_fn g; refine (hcall _ (below_drewN hb _) ⟨hbw, hd0, hd1⟩).mono ?_; rintro e w1 ⟨rfl, hb1⟩)
          go_roundg (lc.length + 1)
          case measure => omega
          case rel =>
            have hb1' : Below wr.heap.size wr w1 := (below_drewN (Below.refl _ wr) _).trans hb1
            have hb2 : Below wr.heap.size wr (w1.alloc (.cells #[.string rk, .string rv] 102)) := hb1'.alloc hb1'.size _
            exact ⟨[], lc, out, H1.below hb2, hr2'.below hb2, hown.below hb2, hb.trans (hb2.mono hb.size), by (try simp) <;> omega, by (try simp) <;> omega, (by have h := HM.out; simp [picked] at h; exact h)⟩
        | true =>
          go_wp2_with fail
          go_quiet (fail)
          go_wp2_with fail
          go_quiet (fail)
          go_wp2_with fail
          go_quiet (fail)
          go_wp2_with (first
            | (go_at_fn g; refine (hcall _ (below_drewN hb _) ⟨hbw, hd0, hd1⟩).mono ?_; rintro e w1 ⟨rfl, hb1⟩; have hb1' : Below wr.heap.size wr w1 := (below_drewN (Below.refl _ wr) _).trans hb1; have ho1 := (hown.below hb1').1; have hsz1 := hb1'.size)
            | (at_builtin; refine wpList_append_attr1 rfl _ _ rfl w.heap.size _ out rk rv (w1.heap.size + 1) rfl rfl (by simp) (ho1.alloc _) (by omega) (by simp; omega) ?_; intro v3 w3 ho3 hg3))
          go_roundg (lc.length + 1)
          case measure => omega
          case rel =>
            have hb2 : Below wr.heap.size wr (w1.alloc (.cells #[.string rk, .string rv] 102)) := hb1'.alloc hb1'.size _
            have hF' : AFits (out ++ [({ key := rk, val := rv } : Attr)]) := by
              intro a ha
              rcases List.mem_append.1 ha with h | h
              · exact hown.2.1 a h
              · simp at h; subst h; exact HF
            exact ⟨[], lc, out ++ [({ key := rk, val := rv } : Attr)], H1.append hb2 hg3 hown, hr2'.append hb2 hg3 hown, ⟨ho3, hF', by simp; omega⟩, (hb.trans (hb2.mono hb.size)).grown hg3 (by have := hb2.size; have := hb.size; omega) hown.row, by (try simp) <;> omega, by (try simp) <;> omega, (by have h := HM.out; simp only [picked, if_true] at h; exact h)⟩
    · rcases lc with _ | ⟨y, lc⟩
      · obtain ⟨b, o, rfl, hS, hbw, hd0, hd1, hf0, hf1⟩ := hr1.attr 0 (by simp)
        simp only [List.getElem_cons_zero, Nat.zero_mul, Nat.add_zero] at hd0 hd1 hf0 hf1
        obtain ⟨A1, c1', hsl, hr1'⟩ := tailA wr b o x la c1 _ hr1 hn1.2
        have hlc : la.length + 1 ≤ c1 := hn1.2
        have hcall := fun W hW hy => hpk W (.pointer (some ⟨b, o, none⟩)) (.pointer none) (some x) none hW ⟨b, o, rfl, hy⟩ rfl rfl
        have HM : Hid (mergeL pk l1 l2 = (out ++ picked (pk (some x) none)) ++ mergeL pk la []) := by rw [Hid, Am]; simp [mergeL]
        have HF : Fits (pk (some x) none).1.key ∧ Fits (pk (some x) none).1.val := hfit (some x) none (by simp; exact ⟨hf0, hf1⟩) (by simp)
        have hlen' : out.length + la.length + 1 ≤ 16 := by simp at hlen; omega
        have hbs := hb.size
        have hg' : la.length + 1 < gk := by simp at hg; omega
        have H2 : Rd KA (fun k => k < w.heap.size) wr (.slice A2 0 c2) [] := ⟨A2, c2, rfl, hn2, hr2⟩
        clear Am hr2 hn2 hlen hg hpk hfit hr1 hn1
        generalize hr : pk (some x) none = r at hcall HM HF
        clear hr
        obtain ⟨⟨rk, rv⟩, r2⟩ := r
        simp only [List.length_nil, List.length_cons]
        cases r2 with
        | false =>
          go_wp2_with fail
          go_quiet (fail)
          go_wp2_with fail
          go_quiet (fail)
          go_wp2_with (go_at_fn g; refine (hcall _ (below_drewN hb _) ⟨hbw, hd0, hd1⟩).mono ?_; rintro e w1 ⟨rfl, hb1⟩)
          go_roundg (la.length + 1)
          case measure => omega
          case rel =>
            have hb1' : Below wr.heap.size wr w1 := (below_drewN (Below.refl _ wr) _).trans hb1
            have hb2 : Below wr.heap.size wr (w1.alloc (.cells #[.string rk, .string rv] 102)) := hb1'.alloc hb1'.size _
            exact ⟨la, [], out, hr1'.below hb2, H2.below hb2, hown.below hb2, hb.trans (hb2.mono hb.size), by (try simp) <;> omega, by (try simp) <;> omega, (by have h := HM.out; simp [picked] at h; exact h)⟩
        | true =>
          go_wp2_with fail
          go_quiet (fail)
          go_wp2_with fail
          go_quiet (fail)
          go_wp2_with (first
            | (go_at_fn g; refine (hcall _ (below_drewN hb _) ⟨hbw, hd0, hd1⟩).mono ?_; rintro e w1 ⟨rfl, hb1⟩; have hb1' : Below wr.heap.size wr w1 := (below_drewN (Below.refl _ wr) _).trans hb1; have ho1 := (hown.below hb1').1; have hsz1 := hb1'.size)
            | (at_builtin; refine wpList_append_attr1 rfl _ _ rfl w.heap.size _ out rk rv (w1.heap.size + 1) rfl rfl (by simp) (ho1.alloc _) (by omega) (by simp; omega) ?_; intro v3 w3 ho3 hg3))
          go_roundg (la.length + 1)
          case measure => omega
          case rel =>
            have hb2 : Below wr.heap.size wr (w1.alloc (.cells #[.string rk, .string rv] 102)) := hb1'.alloc hb1'.size _
            have hF' : AFits (out ++ [({ key := rk, val := rv } : Attr)]) := by
              intro a ha
              rcases List.mem_append.1 ha with h | h
              · exact hown.2.1 a h
              · simp at h; subst h; exact HF
            exact ⟨la, [], out ++ [({ key := rk, val := rv } : Attr)], hr1'.append hb2 hg3 hown, H2.append hb2 hg3 hown, ⟨ho3, hF', by simp; omega⟩, (hb.trans (hb2.mono hb.size)).grown hg3 (by have := hb2.size; have := hb.size; omega) hown.row, by (try simp) <;> omega, by (try simp) <;> omega, (by have h := HM.out; simp only [picked, if_true] at h; exact h)⟩
      · obtain ⟨b1, o1, rfl, hS1, hbw1, hc0, hc1, hfc0, hfc1⟩ := hr1.attr 0 (by simp)
        obtain ⟨b2, o2, rfl, hS2, hbw2, hd0, hd1, hf0, hf1⟩ := hr2.attr 0 (by simp)
        simp only [List.getElem_cons_zero, Nat.zero_mul, Nat.add_zero] at hc0 hc1 hfc0 hfc1 hd0 hd1 hf0 hf1
        obtain ⟨A1, c1', hsl1, hr1'⟩ := tailA wr b1 o1 x la c1 _ hr1 hn1.2
        obtain ⟨A2, c2', hsl2, hr2'⟩ := tailA wr b2 o2 y lc c2 _ hr2 hn2.2
        have hq1 : ((la.length : Int) + 1 == 0) = false := by rw [beq_eq_false_iff_ne]; omega
        have hq2 : ((lc.length : Int) + 1 == 0) = false := by rw [beq_eq_false_iff_ne]; omega
        have hbs := hb.size
        have hlen' : out.length + la.length + lc.length + 2 ≤ 16 := by simp at hlen; omega
        have hg' : la.length + lc.length + 2 < gk := by simp at hg; omega
        have H1 : Rd KA (fun k => k < w.heap.size) wr (.slice (some ⟨b1, o1, none⟩) (la.length + 1) c1) (x :: la) := ⟨_, c1, rfl, hn1, hr1⟩
        have H2 : Rd KA (fun k => k < w.heap.size) wr (.slice (some ⟨b2, o2, none⟩) (lc.length + 1) c2) (y :: lc) := ⟨_, c2, rfl, hn2, hr2⟩
        clear hlen hg hr1 hr2 hn1 hn2
        simp only [List.length_cons]
        cases hlt : ltKey x y with
        | true =>
          have hlt' : Op.bytesLess x.key.toList y.key.toList = true := hlt
          have hcall := fun V hV hy0 hy1 => hpk V (.pointer (some ⟨b1, o1, none⟩)) (.pointer none) (some x) none hV ⟨b1, o1, rfl, hy0⟩ (by have _h : True := hy1; rfl) rfl
          have HF : Fits (pk (some x) none).1.key ∧ Fits (pk (some x) none).1.val := hfit (some x) none (by simp; exact ⟨hfc0, hfc1⟩) (by simp)
          have HM : Hid (mergeL pk l1 l2 = (out ++ picked (pk (some x) none)) ++ mergeL pk la (y :: lc)) := by rw [Hid, Am]; simp [mergeL, hlt]
          clear Am hpk hfit
          generalize hr : pk (some x) none = r at hcall HM HF
          clear hr
          obtain ⟨⟨rk, rv⟩, r2⟩ := r
          clear hlt
          cases r2 with
          | false =>
            go_wp2_with fail
            go_region_held3 (fun w' => w'.cell? ⟨b1, o1, none⟩ = some (.string x.key) ∧ w'.cell? ⟨b1, o1 + 1, none⟩ = some (.string x.val) ∧ w'.cell? ⟨b2, o2, none⟩ = some (.string y.key) ∧ w'.cell? ⟨b2, o2 + 1, none⟩ = some (.string y.val) ∧ Below wr.heap.size wr w')
              (((try dsimp only); (try go_split_ands); (repeat' apply And.intro); all_goals (first | (refine (Below.cell (p := ⟨b1, o1, none⟩) (B := wr.heap.size) (w := wr) ?_ hbw1).trans hc0; (repeat (first | exact (Below.refl wr.heap.size wr) | refine Below.drew ?_ | refine Below.alloc ?_ (by have := ((Below.refl wr.heap.size wr)).size; simp <;> omega) _))) | (refine (Below.cell (p := ⟨b1, o1 + 1, none⟩) (B := wr.heap.size) (w := wr) ?_ hbw1).trans hc1; (repeat (first | exact (Below.refl wr.heap.size wr) | refine Below.drew ?_ | refine Below.alloc ?_ (by have := ((Below.refl wr.heap.size wr)).size; simp <;> omega) _))) | (refine (Below.cell (p := ⟨b2, o2, none⟩) (B := wr.heap.size) (w := wr) ?_ hbw2).trans hd0; (repeat (first | exact (Below.refl wr.heap.size wr) | refine Below.drew ?_ | refine Below.alloc ?_ (by have := ((Below.refl wr.heap.size wr)).size; simp <;> omega) _))) | (refine (Below.cell (p := ⟨b2, o2 + 1, none⟩) (B := wr.heap.size) (w := wr) ?_ hbw2).trans hd1; (repeat (first | exact (Below.refl wr.heap.size wr) | refine Below.drew ?_ | refine Below.alloc ?_ (by have := ((Below.refl wr.heap.size wr)).size; simp <;> omega) _))) | (repeat (first | exact (Below.refl wr.heap.size wr) | refine Below.drew ?_ | refine Below.alloc ?_ (by have := ((Below.refl wr.heap.size wr)).size; simp <;> omega) _)))))
              (first | (go_at_call 140; refine (key_any _ _ _).mono ?_; rintro e w1 ⟨rfl, rfl⟩))
            have hBW : Below wr.heap.size wr ((wr.alloc (.cells #[.string x.key, .string x.val] 102)).alloc (.cells #[.string y.key, .string y.val] 102)).drew := (((Below.refl wr.heap.size wr).alloc (Below.refl wr.heap.size wr).size _).alloc (by have := ((Below.refl wr.heap.size wr)).size; simp <;> omega) _).drew
            generalize ((wr.alloc (.cells #[.string x.key, .string x.val] 102)).alloc (.cells #[.string y.key, .string y.val] 102)).drew = W at *
            have hX : b1 < W.heap.size ∧ W.cell? ⟨b1, o1, none⟩ = some (.string x.key) ∧ W.cell? ⟨b1, o1 + 1, none⟩ = some (.string x.val) := ⟨by have := hBW.size; omega, (hBW.cell (p := ⟨b1, o1, none⟩) hbw1).trans hc0, (hBW.cell (p := ⟨b1, o1 + 1, none⟩) hbw1).trans hc1⟩
            have hY : b2 < W.heap.size ∧ W.cell? ⟨b2, o2, none⟩ = some (.string y.key) ∧ W.cell? ⟨b2, o2 + 1, none⟩ = some (.string y.val) := ⟨by have := hBW.size; omega, (hBW.cell (p := ⟨b2, o2, none⟩) hbw2).trans hd0, (hBW.cell (p := ⟨b2, o2 + 1, none⟩) hbw2).trans hd1⟩
            go_wp2_with fail
            go_quiet (fail)
            go_wp2_with (go_at_fn g; refine (hcall _ (below_drewN (hb.trans (hBW.mono hb.size)) _) hX trivial).mono ?_; rintro e w1 ⟨rfl, hb1⟩)
            go_roundg (la.length + lc.length + 2)
            case measure => omega
            case rel =>
              have hb1' : Below wr.heap.size wr w1 := hBW.trans ((((below_drewN (Below.refl _ W) _)).trans hb1).mono hBW.size)
              have hb2 : Below wr.heap.size wr (w1.alloc (.cells #[.string rk, .string rv] 102)) := hb1'.alloc hb1'.size _
              exact ⟨la, y :: lc, out, hr1'.below hb2, H2.below hb2, hown.below hb2, hb.trans (hb2.mono hb.size), by (try simp) <;> omega, by (try simp) <;> omega, (by have h := HM.out; simp [picked] at h; exact h)⟩
          | true =>
            go_wp2_with fail
            go_region_held3 (fun w' => w'.cell? ⟨b1, o1, none⟩ = some (.string x.key) ∧ w'.cell? ⟨b1, o1 + 1, none⟩ = some (.string x.val) ∧ w'.cell? ⟨b2, o2, none⟩ = some (.string y.key) ∧ w'.cell? ⟨b2, o2 + 1, none⟩ = some (.string y.val) ∧ Below wr.heap.size wr w')
              (((try dsimp only); (try go_split_ands); (repeat' apply And.intro); all_goals (first | (refine (Below.cell (p := ⟨b1, o1, none⟩) (B := wr.heap.size) (w := wr) ?_ hbw1).trans hc0; (repeat (first | exact (Below.refl wr.heap.size wr) | refine Below.drew ?_ | refine Below.alloc ?_ (by have := ((Below.refl wr.heap.size wr)).size; simp <;> omega) _))) | (refine (Below.cell (p := ⟨b1, o1 + 1, none⟩) (B := wr.heap.size) (w := wr) ?_ hbw1).trans hc1; (repeat (first | exact (Below.refl wr.heap.size wr) | refine Below.drew ?_ | refine Below.alloc ?_ (by have := ((Below.refl wr.heap.size wr)).size; simp <;> omega) _))) | (refine (Below.cell (p := ⟨b2, o2, none⟩) (B := wr.heap.size) (w := wr) ?_ hbw2).trans hd0; (repeat (first | exact (Below.refl wr.heap.size wr) | refine Below.drew ?_ | refine Below.alloc ?_ (by have := ((Below.refl wr.heap.size wr)).size; simp <;> omega) _))) | (refine (Below.cell (p := ⟨b2, o2 + 1, none⟩) (B := wr.heap.size) (w := wr) ?_ hbw2).trans hd1; (repeat (first | exact (Below.refl wr.heap.size wr) | refine Below.drew ?_ | refine Below.alloc ?_ (by have := ((Below.refl wr.heap.size wr)).size; simp <;> omega) _))) | (repeat (first | exact (Below.refl wr.heap.size wr) | refine Below.drew ?_ | refine Below.alloc ?_ (by have := ((Below.refl wr.heap.size wr)).size; simp <;> omega) _)))))
              (first | (go_at_call 140; refine (key_any _ _ _).mono ?_; rintro e w1 ⟨rfl, rfl⟩))
            have hBW : Below wr.heap.size wr ((wr.alloc (.cells #[.string x.key, .string x.val] 102)).alloc (.cells #[.string y.key, .string y.val] 102)).drew := (((Below.refl wr.heap.size wr).alloc (Below.refl wr.heap.size wr).size _).alloc (by have := ((Below.refl wr.heap.size wr)).size; simp <;> omega) _).drew
            generalize ((wr.alloc (.cells #[.string x.key, .string x.val] 102)).alloc (.cells #[.string y.key, .string y.val] 102)).drew = W at *
            have hX : b1 < W.heap.size ∧ W.cell? ⟨b1, o1, none⟩ = some (.string x.key) ∧ W.cell? ⟨b1, o1 + 1, none⟩ = some (.string x.val) := ⟨by have := hBW.size; omega, (hBW.cell (p := ⟨b1, o1, none⟩) hbw1).trans hc0, (hBW.cell (p := ⟨b1, o1 + 1, none⟩) hbw1).trans hc1⟩
            have hY : b2 < W.heap.size ∧ W.cell? ⟨b2, o2, none⟩ = some (.string y.key) ∧ W.cell? ⟨b2, o2 + 1, none⟩ = some (.string y.val) := ⟨by have := hBW.size; omega, (hBW.cell (p := ⟨b2, o2, none⟩) hbw2).trans hd0, (hBW.cell (p := ⟨b2, o2 + 1, none⟩) hbw2).trans hd1⟩
            go_wp2_with fail
            go_quiet (fail)
            go_wp2_with (first
              | (go_at_fn g; refine (hcall _ (below_drewN (hb.trans (hBW.mono hb.size)) _) hX trivial).mono ?_; rintro e w1 ⟨rfl, hb1⟩; have hb1' : Below wr.heap.size wr w1 := hBW.trans ((((below_drewN (Below.refl _ W) _)).trans hb1).mono hBW.size); have ho1 := (hown.below hb1').1; have hsz1 := hb1'.size)
              | (at_builtin; refine wpList_append_attr1 rfl _ _ rfl w.heap.size _ out rk rv (w1.heap.size + 1) rfl rfl (by simp) (ho1.alloc _) (by omega) (by simp; omega) ?_; intro v3 w3 ho3 hg3))
            go_roundg (la.length + lc.length + 2)
            case measure => omega
            case rel =>
              have hb2 : Below wr.heap.size wr (w1.alloc (.cells #[.string rk, .string rv] 102)) := hb1'.alloc hb1'.size _
              have hF' : AFits (out ++ [({ key := rk, val := rv } : Attr)]) := by
                intro a ha
                rcases List.mem_append.1 ha with h | h
                · exact hown.2.1 a h
                · simp at h; subst h; exact HF
              exact ⟨la, y :: lc, out ++ [({ key := rk, val := rv } : Attr)], hr1'.append hb2 hg3 hown, H2.append hb2 hg3 hown, ⟨ho3, hF', by simp; omega⟩, (hb.trans (hb2.mono hb.size)).grown hg3 (by have := hb2.size; have := hb.size; omega) hown.row, by (try simp) <;> omega, by (try simp) <;> omega, (by have h := HM.out; simp only [picked, if_true] at h; exact h)⟩
        | false =>
          have hlt' : Op.bytesLess x.key.toList y.key.toList = false := hlt
          cases hgt : ltKey y x with
          | true =>
            have hgt' : Op.bytesLess y.key.toList x.key.toList = true := hgt
            have hcall := fun V hV hy0 hy1 => hpk V (.pointer none) (.pointer (some ⟨b2, o2, none⟩)) none (some y) hV (by have _h : True := hy0; rfl) ⟨b2, o2, rfl, hy1⟩ rfl
            have HF : Fits (pk none (some y)).1.key ∧ Fits (pk none (some y)).1.val := hfit none (some y) (by simp) (by simp; exact ⟨hf0, hf1⟩)
            have HM : Hid (mergeL pk l1 l2 = (out ++ picked (pk none (some y))) ++ mergeL pk (x :: la) lc) := by rw [Hid, Am]; simp [mergeL, hlt, hgt]
            clear Am hpk hfit
            generalize hr : pk none (some y) = r at hcall HM HF
            clear hr
            obtain ⟨⟨rk, rv⟩, r2⟩ := r
            clear hlt hgt
            cases r2 with
            | false =>
              go_wp2_with fail
              go_region_held3 (fun w' => w'.cell? ⟨b1, o1, none⟩ = some (.string x.key) ∧ w'.cell? ⟨b1, o1 + 1, none⟩ = some (.string x.val) ∧ w'.cell? ⟨b2, o2, none⟩ = some (.string y.key) ∧ w'.cell? ⟨b2, o2 + 1, none⟩ = some (.string y.val) ∧ Below wr.heap.size wr w')
                (((try dsimp only); (try go_split_ands); (repeat' apply And.intro); all_goals (first | (refine (Below.cell (p := ⟨b1, o1, none⟩) (B := wr.heap.size) (w := wr) ?_ hbw1).trans hc0; (repeat (first | exact (Below.refl wr.heap.size wr) | refine Below.drew ?_ | refine Below.alloc ?_ (by have := ((Below.refl wr.heap.size wr)).size; simp <;> omega) _))) | (refine (Below.cell (p := ⟨b1, o1 + 1, none⟩) (B := wr.heap.size) (w := wr) ?_ hbw1).trans hc1; (repeat (first | exact (Below.refl wr.heap.size wr) | refine Below.drew ?_ | refine Below.alloc ?_ (by have := ((Below.refl wr.heap.size wr)).size; simp <;> omega) _))) | (refine (Below.cell (p := ⟨b2, o2, none⟩) (B := wr.heap.size) (w := wr) ?_ hbw2).trans hd0; (repeat (first | exact (Below.refl wr.heap.size wr) | refine Below.drew ?_ | refine Below.alloc ?_ (by have := ((Below.refl wr.heap.size wr)).size; simp <;> omega) _))) | (refine (Below.cell (p := ⟨b2, o2 + 1, none⟩) (B := wr.heap.size) (w := wr) ?_ hbw2).trans hd1; (repeat (first | exact (Below.refl wr.heap.size wr) | refine Below.drew ?_ | refine Below.alloc ?_ (by have := ((Below.refl wr.heap.size wr)).size; simp <;> omega) _))) | (repeat (first | exact (Below.refl wr.heap.size wr) | refine Below.drew ?_ | refine Below.alloc ?_ (by have := ((Below.refl wr.heap.size wr)).size; simp <;> omega) _)))))
                (first | (go_at_call 140; refine (key_any _ _ _).mono ?_; rintro e w1 ⟨rfl, rfl⟩))
              have hBW1 : Below wr.heap.size wr ((wr.alloc (.cells #[.string x.key, .string x.val] 102)).alloc (.cells #[.string y.key, .string y.val] 102)).drew := (((Below.refl wr.heap.size wr).alloc (Below.refl wr.heap.size wr).size _).alloc (by have := ((Below.refl wr.heap.size wr)).size; simp <;> omega) _).drew
              generalize ((wr.alloc (.cells #[.string x.key, .string x.val] 102)).alloc (.cells #[.string y.key, .string y.val] 102)).drew = W1 at *
              have hw1 : b1 < W1.heap.size := by have := hBW1.size; omega
              have hw2 : b2 < W1.heap.size := by have := hBW1.size; omega
              go_wp2_with fail
              go_region_held3 (fun w' => w'.cell? ⟨b1, o1, none⟩ = some (.string x.key) ∧ w'.cell? ⟨b1, o1 + 1, none⟩ = some (.string x.val) ∧ w'.cell? ⟨b2, o2, none⟩ = some (.string y.key) ∧ w'.cell? ⟨b2, o2 + 1, none⟩ = some (.string y.val) ∧ Below wr.heap.size wr w')
                (((try dsimp only); (try go_split_ands); (repeat' apply And.intro); all_goals (first | (refine (Below.cell (p := ⟨b1, o1, none⟩) (B := wr.heap.size) (w := wr) ?_ hbw1).trans hc0; (repeat (first | exact hBW1 | refine Below.drew ?_ | refine Below.alloc ?_ (by have := (hBW1).size; simp <;> omega) _))) | (refine (Below.cell (p := ⟨b1, o1 + 1, none⟩) (B := wr.heap.size) (w := wr) ?_ hbw1).trans hc1; (repeat (first | exact hBW1 | refine Below.drew ?_ | refine Below.alloc ?_ (by have := (hBW1).size; simp <;> omega) _))) | (refine (Below.cell (p := ⟨b2, o2, none⟩) (B := wr.heap.size) (w := wr) ?_ hbw2).trans hd0; (repeat (first | exact hBW1 | refine Below.drew ?_ | refine Below.alloc ?_ (by have := (hBW1).size; simp <;> omega) _))) | (refine (Below.cell (p := ⟨b2, o2 + 1, none⟩) (B := wr.heap.size) (w := wr) ?_ hbw2).trans hd1; (repeat (first | exact hBW1 | refine Below.drew ?_ | refine Below.alloc ?_ (by have := (hBW1).size; simp <;> omega) _))) | (repeat (first | exact hBW1 | refine Below.drew ?_ | refine Below.alloc ?_ (by have := (hBW1).size; simp <;> omega) _)))))
                (first | (go_at_call 140; refine (key_any _ _ _).mono ?_; rintro e w1 ⟨rfl, rfl⟩))
              have hBW : Below wr.heap.size wr ((W1.alloc (.cells #[.string y.key, .string y.val] 102)).alloc (.cells #[.string x.key, .string x.val] 102)).drew := ((hBW1.alloc hBW1.size _).alloc (by have := (hBW1).size; simp <;> omega) _).drew
              generalize ((W1.alloc (.cells #[.string y.key, .string y.val] 102)).alloc (.cells #[.string x.key, .string x.val] 102)).drew = W at *
              have hX : b1 < W.heap.size ∧ W.cell? ⟨b1, o1, none⟩ = some (.string x.key) ∧ W.cell? ⟨b1, o1 + 1, none⟩ = some (.string x.val) := ⟨by have := hBW.size; omega, (hBW.cell (p := ⟨b1, o1, none⟩) hbw1).trans hc0, (hBW.cell (p := ⟨b1, o1 + 1, none⟩) hbw1).trans hc1⟩
              have hY : b2 < W.heap.size ∧ W.cell? ⟨b2, o2, none⟩ = some (.string y.key) ∧ W.cell? ⟨b2, o2 + 1, none⟩ = some (.string y.val) := ⟨by have := hBW.size; omega, (hBW.cell (p := ⟨b2, o2, none⟩) hbw2).trans hd0, (hBW.cell (p := ⟨b2, o2 + 1, none⟩) hbw2).trans hd1⟩
              go_wp2_with fail
              go_quiet (fail)
              go_wp2_with (go_at_fn g; refine (hcall _ (below_drewN (hb.trans (hBW.mono hb.size)) _) trivial hY).mono ?_; rintro e w1 ⟨rfl, hb1⟩)
              go_roundg (la.length + lc.length + 2)
              case measure => omega
              case rel =>
                have hb1' : Below wr.heap.size wr w1 := hBW.trans ((((below_drewN (Below.refl _ W) _)).trans hb1).mono hBW.size)
                have hb2 : Below wr.heap.size wr (w1.alloc (.cells #[.string rk, .string rv] 102)) := hb1'.alloc hb1'.size _
                exact ⟨x :: la, lc, out, H1.below hb2, hr2'.below hb2, hown.below hb2, hb.trans (hb2.mono hb.size), by (try simp) <;> omega, by (try simp) <;> omega, (by have h := HM.out; simp [picked] at h; exact h)⟩
            | true =>
              go_wp2_with fail
              go_region_held3 (fun w' => w'.cell? ⟨b1, o1, none⟩ = some (.string x.key) ∧ w'.cell? ⟨b1, o1 + 1, none⟩ = some (.string x.val) ∧ w'.cell? ⟨b2, o2, none⟩ = some (.string y.key) ∧ w'.cell? ⟨b2, o2 + 1, none⟩ = some (.string y.val) ∧ Below wr.heap.size wr w')
                (((try dsimp only); (try go_split_ands); (repeat' apply And.intro); all_goals (first | (refine (Below.cell (p := ⟨b1, o1, none⟩) (B := wr.heap.size) (w := wr) ?_ hbw1).trans hc0; (repeat (first | exact (Below.refl wr.heap.size wr) | refine Below.drew ?_ | refine Below.alloc ?_ (by have := ((Below.refl wr.heap.size wr)).size; simp <;> omega) _))) | (refine (Below.cell (p := ⟨b1, o1 + 1, none⟩) (B := wr.heap.size) (w := wr) ?_ hbw1).trans hc1; (repeat (first | exact (Below.refl wr.heap.size wr) | refine Below.drew ?_ | refine Below.alloc ?_ (by have := ((Below.refl wr.heap.size wr)).size; simp <;> omega) _))) | (refine (Below.cell (p := ⟨b2, o2, none⟩) (B := wr.heap.size) (w := wr) ?_ hbw2).trans hd0; (repeat (first | exact (Below.refl wr.heap.size wr) | refine Below.drew ?_ | refine Below.alloc ?_ (by have := ((Below.refl wr.heap.size wr)).size; simp <;> omega) _))) | (refine (Below.cell (p := ⟨b2, o2 + 1, none⟩) (B := wr.heap.size) (w := wr) ?_ hbw2).trans hd1; (repeat (first | exact (Below.refl wr.heap.size wr) | refine Below.drew ?_ | refine Below.alloc ?_ (by have := ((Below.refl wr.heap.size wr)).size; simp <;> omega) _))) | (repeat (first | exact (Below.refl wr.heap.size wr) | refine Below.drew ?_ | refine Below.alloc ?_ (by have := ((Below.refl wr.heap.size wr)).size; simp <;> omega) _)))))
                (first | (go_at_call 140; refine (key_any _ _ _).mono ?_; rintro e w1 ⟨rfl, rfl⟩))
              have hBW1 : Below wr.heap.size wr ((wr.alloc (.cells #[.string x.key, .string x.val] 102)).alloc (.cells #[.string y.key, .string y.val] 102)).drew := (((Below.refl wr.heap.size wr).alloc (Below.refl wr.heap.size wr).size _).alloc (by have := ((Below.refl wr.heap.size wr)).size; simp <;> omega) _).drew
              generalize ((wr.alloc (.cells #[.string x.key, .string x.val] 102)).alloc (.cells #[.string y.key, .string y.val] 102)).drew = W1 at *
              have hw1 : b1 < W1.heap.size := by have := hBW1.size; omega
              have hw2 : b2 < W1.heap.size := by have := hBW1.size; omega
              go_wp2_with fail
              go_region_held3 (fun w' => w'.cell? ⟨b1, o1, none⟩ = some (.string x.key) ∧ w'.cell? ⟨b1, o1 + 1, none⟩ = some (.string x.val) ∧ w'.cell? ⟨b2, o2, none⟩ = some (.string y.key) ∧ w'.cell? ⟨b2, o2 + 1, none⟩ = some (.string y.val) ∧ Below wr.heap.size wr w')
                (((try dsimp only); (try go_split_ands); (repeat' apply And.intro); all_goals (first | (refine (Below.cell (p := ⟨b1, o1, none⟩) (B := wr.heap.size) (w := wr) ?_ hbw1).trans hc0; (repeat (first | exact hBW1 | refine Below.drew ?_ | refine Below.alloc ?_ (by have := (hBW1).size; simp <;> omega) _))) | (refine (Below.cell (p := ⟨b1, o1 + 1, none⟩) (B := wr.heap.size) (w := wr) ?_ hbw1).trans hc1; (repeat (first | exact hBW1 | refine Below.drew ?_ | refine Below.alloc ?_ (by have := (hBW1).size; simp <;> omega) _))) | (refine (Below.cell (p := ⟨b2, o2, none⟩) (B := wr.heap.size) (w := wr) ?_ hbw2).trans hd0; (repeat (first | exact hBW1 | refine Below.drew ?_ | refine Below.alloc ?_ (by have := (hBW1).size; simp <;> omega) _))) | (refine (Below.cell (p := ⟨b2, o2 + 1, none⟩) (B := wr.heap.size) (w := wr) ?_ hbw2).trans hd1; (repeat (first | exact hBW1 | refine Below.drew ?_ | refine Below.alloc ?_ (by have := (hBW1).size; simp <;> omega) _))) | (repeat (first | exact hBW1 | refine Below.drew ?_ | refine Below.alloc ?_ (by have := (hBW1).size; simp <;> omega) _)))))
                (first | (go_at_call 140; refine (key_any _ _ _).mono ?_; rintro e w1 ⟨rfl, rfl⟩))
              have hBW : Below wr.heap.size wr ((W1.alloc (.cells #[.string y.key, .string y.val] 102)).alloc (.cells #[.string x.key, .string x.val] 102)).drew := ((hBW1.alloc hBW1.size _).alloc (by have := (hBW1).size; simp <;> omega) _).drew
              generalize ((W1.alloc (.cells #[.string y.key, .string y.val] 102)).alloc (.cells #[.string x.key, .string x.val] 102)).drew = W at *
              have hX : b1 < W.heap.size ∧ W.cell? ⟨b1, o1, none⟩ = some (.string x.key) ∧ W.cell? ⟨b1, o1 + 1, none⟩ = some (.string x.val) := ⟨by have := hBW.size; omega, (hBW.cell (p := ⟨b1, o1, none⟩) hbw1).trans hc0, (hBW.cell (p := ⟨b1, o1 + 1, none⟩) hbw1).trans hc1⟩
              have hY : b2 < W.heap.size ∧ W.cell? ⟨b2, o2, none⟩ = some (.string y.key) ∧ W.cell? ⟨b2, o2 + 1, none⟩ = some (.string y.val) := ⟨by have := hBW.size; omega, (hBW.cell (p := ⟨b2, o2, none⟩) hbw2).trans hd0, (hBW.cell (p := ⟨b2, o2 + 1, none⟩) hbw2).trans hd1⟩
              go_wp2_with fail
              go_quiet (fail)
              go_wp2_with (first
                | (go_at_fn g; refine (hcall _ (below_drewN (hb.trans (hBW.mono hb.size)) _) trivial hY).mono ?_; rintro e w1 ⟨rfl, hb1⟩; have hb1' : Below wr.heap.size wr w1 := hBW.trans ((((below_drewN (Below.refl _ W) _)).trans hb1).mono hBW.size); have ho1 := (hown.below hb1').1; have hsz1 := hb1'.size)
                | (at_builtin; refine wpList_append_attr1 rfl _ _ rfl w.heap.size _ out rk rv (w1.heap.size + 1) rfl rfl (by simp) (ho1.alloc _) (by omega) (by simp; omega) ?_; intro v3 w3 ho3 hg3))
              go_roundg (la.length + lc.length + 2)
              case measure => omega
              case rel =>
                have hb2 : Below wr.heap.size wr (w1.alloc (.cells #[.string rk, .string rv] 102)) := hb1'.alloc hb1'.size _
                have hF' : AFits (out ++ [({ key := rk, val := rv } : Attr)]) := by
                  intro a ha
                  rcases List.mem_append.1 ha with h | h
                  · exact hown.2.1 a h
                  · simp at h; subst h; exact HF
                exact ⟨x :: la, lc, out ++ [({ key := rk, val := rv } : Attr)], H1.append hb2 hg3 hown, hr2'.append hb2 hg3 hown, ⟨ho3, hF', by simp; omega⟩, (hb.trans (hb2.mono hb.size)).grown hg3 (by have := hb2.size; have := hb.size; omega) hown.row, by (try simp) <;> omega, by (try simp) <;> omega, (by have h := HM.out; simp only [picked, if_true] at h; exact h)⟩
          | false =>
            have hgt' : Op.bytesLess y.key.toList x.key.toList = false := hgt
            have hcall := fun V hV hy0 hy1 => hpk V (.pointer (some ⟨b1, o1, none⟩)) (.pointer (some ⟨b2, o2, none⟩)) (some x) (some y) hV ⟨b1, o1, rfl, hy0⟩ ⟨b2, o2, rfl, hy1⟩ rfl
            have HF : Fits (pk (some x) (some y)).1.key ∧ Fits (pk (some x) (some y)).1.val := hfit (some x) (some y) (by simp; exact ⟨hfc0, hfc1⟩) (by simp; exact ⟨hf0, hf1⟩)
            have HM : Hid (mergeL pk l1 l2 = (out ++ picked (pk (some x) (some y))) ++ mergeL pk la lc) := by rw [Hid, Am]; simp [mergeL, hlt, hgt]
            clear Am hpk hfit
            generalize hr : pk (some x) (some y) = r at hcall HM HF
            clear hr
            obtain ⟨⟨rk, rv⟩, r2⟩ := r
            clear hlt hgt
            cases r2 with
            | false =>
              go_wp2_with fail
              go_region_held3 (fun w' => w'.cell? ⟨b1, o1, none⟩ = some (.string x.key) ∧ w'.cell? ⟨b1, o1 + 1, none⟩ = some (.string x.val) ∧ w'.cell? ⟨b2, o2, none⟩ = some (.string y.key) ∧ w'.cell? ⟨b2, o2 + 1, none⟩ = some (.string y.val) ∧ Below wr.heap.size wr w')
                (((try dsimp only); (try go_split_ands); (repeat' apply And.intro); all_goals (first | (refine (Below.cell (p := ⟨b1, o1, none⟩) (B := wr.heap.size) (w := wr) ?_ hbw1).trans hc0; (repeat (first | exact (Below.refl wr.heap.size wr) | refine Below.drew ?_ | refine Below.alloc ?_ (by have := ((Below.refl wr.heap.size wr)).size; simp <;> omega) _))) | (refine (Below.cell (p := ⟨b1, o1 + 1, none⟩) (B := wr.heap.size) (w := wr) ?_ hbw1).trans hc1; (repeat (first | exact (Below.refl wr.heap.size wr) | refine Below.drew ?_ | refine Below.alloc ?_ (by have := ((Below.refl wr.heap.size wr)).size; simp <;> omega) _))) | (refine (Below.cell (p := ⟨b2, o2, none⟩) (B := wr.heap.size) (w := wr) ?_ hbw2).trans hd0; (repeat (first | exact (Below.refl wr.heap.size wr) | refine Below.drew ?_ | refine Below.alloc ?_ (by have := ((Below.refl wr.heap.size wr)).size; simp <;> omega) _))) | (refine (Below.cell (p := ⟨b2, o2 + 1, none⟩) (B := wr.heap.size) (w := wr) ?_ hbw2).trans hd1; (repeat (first | exact (Below.refl wr.heap.size wr) | refine Below.drew ?_ | refine Below.alloc ?_ (by have := ((Below.refl wr.heap.size wr)).size; simp <;> omega) _))) | (repeat (first | exact (Below.refl wr.heap.size wr) | refine Below.drew ?_ | refine Below.alloc ?_ (by have := ((Below.refl wr.heap.size wr)).size; simp <;> omega) _)))))
                (first | (go_at_call 140; refine (key_any _ _ _).mono ?_; rintro e w1 ⟨rfl, rfl⟩))
              have hBW1 : Below wr.heap.size wr ((wr.alloc (.cells #[.string x.key, .string x.val] 102)).alloc (.cells #[.string y.key, .string y.val] 102)).drew := (((Below.refl wr.heap.size wr).alloc (Below.refl wr.heap.size wr).size _).alloc (by have := ((Below.refl wr.heap.size wr)).size; simp <;> omega) _).drew
              generalize ((wr.alloc (.cells #[.string x.key, .string x.val] 102)).alloc (.cells #[.string y.key, .string y.val] 102)).drew = W1 at *
              have hw1 : b1 < W1.heap.size := by have := hBW1.size; omega
              have hw2 : b2 < W1.heap.size := by have := hBW1.size; omega
              go_wp2_with fail
              go_region_held3 (fun w' => w'.cell? ⟨b1, o1, none⟩ = some (.string x.key) ∧ w'.cell? ⟨b1, o1 + 1, none⟩ = some (.string x.val) ∧ w'.cell? ⟨b2, o2, none⟩ = some (.string y.key) ∧ w'.cell? ⟨b2, o2 + 1, none⟩ = some (.string y.val) ∧ Below wr.heap.size wr w')
                (((try dsimp only); (try go_split_ands); (repeat' apply And.intro); all_goals (first | (refine (Below.cell (p := ⟨b1, o1, none⟩) (B := wr.heap.size) (w := wr) ?_ hbw1).trans hc0; (repeat (first | exact hBW1 | refine Below.drew ?_ | refine Below.alloc ?_ (by have := (hBW1).size; simp <;> omega) _))) | (refine (Below.cell (p := ⟨b1, o1 + 1, none⟩) (B := wr.heap.size) (w := wr) ?_ hbw1).trans hc1; (repeat (first | exact hBW1 | refine Below.drew ?_ | refine Below.alloc ?_ (by have := (hBW1).size; simp <;> omega) _))) | (refine (Below.cell (p := ⟨b2, o2, none⟩) (B := wr.heap.size) (w := wr) ?_ hbw2).trans hd0; (repeat (first | exact hBW1 | refine Below.drew ?_ | refine Below.alloc ?_ (by have := (hBW1).size; simp <;> omega) _))) | (refine (Below.cell (p := ⟨b2, o2 + 1, none⟩) (B := wr.heap.size) (w := wr) ?_ hbw2).trans hd1; (repeat (first | exact hBW1 | refine Below.drew ?_ | refine Below.alloc ?_ (by have := (hBW1).size; simp <;> omega) _))) | (repeat (first | exact hBW1 | refine Below.drew ?_ | refine Below.alloc ?_ (by have := (hBW1).size; simp <;> omega) _)))))
                (first | (go_at_call 140; refine (key_any _ _ _).mono ?_; rintro e w1 ⟨rfl, rfl⟩))
              have hBW : Below wr.heap.size wr ((W1.alloc (.cells #[.string y.key, .string y.val] 102)).alloc (.cells #[.string x.key, .string x.val] 102)).drew := ((hBW1.alloc hBW1.size _).alloc (by have := (hBW1).size; simp <;> omega) _).drew
              generalize ((W1.alloc (.cells #[.string y.key, .string y.val] 102)).alloc (.cells #[.string x.key, .string x.val] 102)).drew = W at *
              have hX : b1 < W.heap.size ∧ W.cell? ⟨b1, o1, none⟩ = some (.string x.key) ∧ W.cell? ⟨b1, o1 + 1, none⟩ = some (.string x.val) := ⟨by have := hBW.size; omega, (hBW.cell (p := ⟨b1, o1, none⟩) hbw1).trans hc0, (hBW.cell (p := ⟨b1, o1 + 1, none⟩) hbw1).trans hc1⟩
              have hY : b2 < W.heap.size ∧ W.cell? ⟨b2, o2, none⟩ = some (.string y.key) ∧ W.cell? ⟨b2, o2 + 1, none⟩ = some (.string y.val) := ⟨by have := hBW.size; omega, (hBW.cell (p := ⟨b2, o2, none⟩) hbw2).trans hd0, (hBW.cell (p := ⟨b2, o2 + 1, none⟩) hbw2).trans hd1⟩
              go_wp2_with fail
              go_quiet (fail)
              go_wp2_with (go_at_fn g; refine (hcall _ (below_drewN (hb.trans (hBW.mono hb.size)) _) hX hY).mono ?_; rintro e w1 ⟨rfl, hb1⟩)
              go_roundg (la.length + lc.length + 2)
              case measure => omega
              case rel =>
                have hb1' : Below wr.heap.size wr w1 := hBW.trans ((((below_drewN (Below.refl _ W) _)).trans hb1).mono hBW.size)
                have hb2 : Below wr.heap.size wr (w1.alloc (.cells #[.string rk, .string rv] 102)) := hb1'.alloc hb1'.size _
                exact ⟨la, lc, out, hr1'.below hb2, hr2'.below hb2, hown.below hb2, hb.trans (hb2.mono hb.size), by (try simp) <;> omega, by (try simp) <;> omega, (by have h := HM.out; simp [picked] at h; exact h)⟩
            | true =>
              go_wp2_with fail
              go_region_held3 (fun w' => w'.cell? ⟨b1, o1, none⟩ = some (.string x.key) ∧ w'.cell? ⟨b1, o1 + 1, none⟩ = some (.string x.val) ∧ w'.cell? ⟨b2, o2, none⟩ = some (.string y.key) ∧ w'.cell? ⟨b2, o2 + 1, none⟩ = some (.string y.val) ∧ Below wr.heap.size wr w')
                (((try dsimp only); (try go_split_ands); (repeat' apply And.intro); all_goals (first | (refine (Below.cell (p := ⟨b1, o1, none⟩) (B := wr.heap.size) (w := wr) ?_ hbw1).trans hc0; (repeat (first | exact (Below.refl wr.heap.size wr) | refine Below.drew ?_ | refine Below.alloc ?_ (by have := ((Below.refl wr.heap.size wr)).size; simp <;> omega) _))) | (refine (Below.cell (p := ⟨b1, o1 + 1, none⟩) (B := wr.heap.size) (w := wr) ?_ hbw1).trans hc1; (repeat (first | exact (Below.refl wr.heap.size wr) | refine Below.drew ?_ | refine Below.alloc ?_ (by have := ((Below.refl wr.heap.size wr)).size; simp <;> omega) _))) | (refine (Below.cell (p := ⟨b2, o2, none⟩) (B := wr.heap.size) (w := wr) ?_ hbw2).trans hd0; (repeat (first | exact (Below.refl wr.heap.size wr) | refine Below.drew ?_ | refine Below.alloc ?_ (by have := ((Below.refl wr.heap.size wr)).size; simp <;> omega) _))) | (refine (Below.cell (p := ⟨b2, o2 + 1, none⟩) (B := wr.heap.size) (w := wr) ?_ hbw2).trans hd1; (repeat (first | exact (Below.refl wr.heap.size wr) | refine Below.drew ?_ | refine Below.alloc ?_ (by have := ((Below.refl wr.heap.size wr)).size; simp <;> omega) _))) | (repeat (first | exact (Below.refl wr.heap.size wr) | refine Below.drew ?_ | refine Below.alloc ?_ (by have := ((Below.refl wr.heap.size wr)).size; simp <;> omega) _)))))
                (first | (go_at_call 140; refine (key_any _ _ _).mono ?_; rintro e w1 ⟨rfl, rfl⟩))
              have hBW1 : Below wr.heap.size wr ((wr.alloc (.cells #[.string x.key, .string x.val] 102)).alloc (.cells #[.string y.key, .string y.val] 102)).drew := (((Below.refl wr.heap.size wr).alloc (Below.refl wr.heap.size wr).size _).alloc (by have := ((Below.refl wr.heap.size wr)).size; simp <;> omega) _).drew
              generalize ((wr.alloc (.cells #[.string x.key, .string x.val] 102)).alloc (.cells #[.string y.key, .string y.val] 102)).drew = W1 at *
              have hw1 : b1 < W1.heap.size := by have := hBW1.size; omega
              have hw2 : b2 < W1.heap.size := by have := hBW1.size; omega
              go_wp2_with fail
              go_region_held3 (fun w' => w'.cell? ⟨b1, o1, none⟩ = some (.string x.key) ∧ w'.cell? ⟨b1, o1 + 1, none⟩ = some (.string x.val) ∧ w'.cell? ⟨b2, o2, none⟩ = some (.string y.key) ∧ w'.cell? ⟨b2, o2 + 1, none⟩ = some (.string y.val) ∧ Below wr.heap.size wr w')
                (((try dsimp only); (try go_split_ands); (repeat' apply And.intro); all_goals (first | (refine (Below.cell (p := ⟨b1, o1, none⟩) (B := wr.heap.size) (w := wr) ?_ hbw1).trans hc0; (repeat (first | exact hBW1 | refine Below.drew ?_ | refine Below.alloc ?_ (by have := (hBW1).size; simp <;> omega) _))) | (refine (Below.cell (p := ⟨b1, o1 + 1, none⟩) (B := wr.heap.size) (w := wr) ?_ hbw1).trans hc1; (repeat (first | exact hBW1 | refine Below.drew ?_ | refine Below.alloc ?_ (by have := (hBW1).size; simp <;> omega) _))) | (refine (Below.cell (p := ⟨b2, o2, none⟩) (B := wr.heap.size) (w := wr) ?_ hbw2).trans hd0; (repeat (first | exact hBW1 | refine Below.drew ?_ | refine Below.alloc ?_ (by have := (hBW1).size; simp <;> omega) _))) | (refine (Below.cell (p := ⟨b2, o2 + 1, none⟩) (B := wr.heap.size) (w := wr) ?_ hbw2).trans hd1; (repeat (first | exact hBW1 | refine Below.drew ?_ | refine Below.alloc ?_ (by have := (hBW1).size; simp <;> omega) _))) | (repeat (first | exact hBW1 | refine Below.drew ?_ | refine Below.alloc ?_ (by have := (hBW1).size; simp <;> omega) _)))))
                (first | (go_at_call 140; refine (key_any _ _ _).mono ?_; rintro e w1 ⟨rfl, rfl⟩))
              have hBW : Below wr.heap.size wr ((W1.alloc (.cells #[.string y.key, .string y.val] 102)).alloc (.cells #[.string x.key, .string x.val] 102)).drew := ((hBW1.alloc hBW1.size _).alloc (by have := (hBW1).size; simp <;> omega) _).drew
              generalize ((W1.alloc (.cells #[.string y.key, .string y.val] 102)).alloc (.cells #[.string x.key, .string x.val] 102)).drew = W at *
              have hX : b1 < W.heap.size ∧ W.cell? ⟨b1, o1, none⟩ = some (.string x.key) ∧ W.cell? ⟨b1, o1 + 1, none⟩ = some (.string x.val) := ⟨by have := hBW.size; omega, (hBW.cell (p := ⟨b1, o1, none⟩) hbw1).trans hc0, (hBW.cell (p := ⟨b1, o1 + 1, none⟩) hbw1).trans hc1⟩
              have hY : b2 < W.heap.size ∧ W.cell? ⟨b2, o2, none⟩ = some (.string y.key) ∧ W.cell? ⟨b2, o2 + 1, none⟩ = some (.string y.val) := ⟨by have := hBW.size; omega, (hBW.cell (p := ⟨b2, o2, none⟩) hbw2).trans hd0, (hBW.cell (p := ⟨b2, o2 + 1, none⟩) hbw2).trans hd1⟩
              go_wp2_with fail
              go_quiet (fail)
              go_wp2_with (first
                | (go_at_fn g; refine (hcall _ (below_drewN (hb.trans (hBW.mono hb.size)) _) hX hY).mono ?_; rintro e w1 ⟨rfl, hb1⟩; have hb1' : Below wr.heap.size wr w1 := hBW.trans ((((below_drewN (Below.refl _ W) _)).trans hb1).mono hBW.size); have ho1 := (hown.below hb1').1; have hsz1 := hb1'.size)
                | (at_builtin; refine wpList_append_attr1 rfl _ _ rfl w.heap.size _ out rk rv (w1.heap.size + 1) rfl rfl (by simp) (ho1.alloc _) (by omega) (by simp; omega) ?_; intro v3 w3 ho3 hg3))
              go_roundg (la.length + lc.length + 2)
              case measure => omega
              case rel =>
                have hb2 : Below wr.heap.size wr (w1.alloc (.cells #[.string rk, .string rv] 102)) := hb1'.alloc hb1'.size _
                have hF' : AFits (out ++ [({ key := rk, val := rv } : Attr)]) := by
                  intro a ha
                  rcases List.mem_append.1 ha with h | h
                  · exact hown.2.1 a h
                  · simp at h; subst h; exact HF
                exact ⟨la, lc, out ++ [({ key := rk, val := rv } : Attr)], hr1'.append hb2 hg3 hown, hr2'.append hb2 hg3 hown, ⟨ho3, hF', by simp; omega⟩, (hb.trans (hb2.mono hb.size)).grown hg3 (by have := hb2.size; have := hb.size; omega) hown.row, by (try simp) <;> omega, by (try simp) <;> omega, (by have h := HM.out; simp only [picked, if_true] at h; exact h)⟩

end Go.Proofs.YtaemajcpgmaapaaDoor
