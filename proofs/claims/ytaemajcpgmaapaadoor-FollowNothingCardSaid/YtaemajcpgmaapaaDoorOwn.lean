/- Rows of the call's own: attributes, operations. -/
import Derived.Test.YtaemajcpgmaapaaDoorAttrs3
import Derived.Laws.OwnMore
import Derived.OwnWalk
import Derived.Laws.AppendOwnNone
import Derived.Deep.AppendLies
namespace Go.Proofs.YtaemajcpgmaapaaDoor
open Go.RowKit

def acells (l : List Attr) : List Value := l.flatMap fun a => [.string a.key, .string a.val]
def AFits (l : List Attr) : Prop := ∀ a ∈ l, Fits a.key ∧ Fits a.val
/-- Attributes in memory that the call itself has made. -/
def OwnA (lo : Nat) (w : World) (v : Value) (l : List Attr) : Prop := w.ownsRow lo 102 2 v l.length (acells l) ∧ AFits l ∧ l.length * 32 ≤ 140737488355328

theorem acells_length (l : List Attr) : (acells l).length = l.length * 2 := by
  induction l with
  | nil => rfl
  | cons a l ih => simp only [acells, List.flatMap_cons, List.length_append, List.length_cons, List.length_nil] at *; omega
theorem acells_at (l : List Attr) (k : Nat) (hk : k < l.length) : (acells l)[k * 2]? = some (.string l[k].key) ∧ (acells l)[k * 2 + 1]? = some (.string l[k].val) := by
  induction l generalizing k with
  | nil => simp at hk
  | cons a l ih =>
    cases k with
    | zero => exact ⟨rfl, rfl⟩
    | succ k =>
      have := ih k (by simpa using hk)
      have e1 : (k + 1) * 2 = (k * 2) + 1 + 1 := by omega
      simp only [acells, List.flatMap_cons] at this ⊢
      rw [e1]
      simpa using this
theorem acells_append (l m : List Attr) : acells (l ++ m) = acells l ++ acells m := by simp [acells]

theorem OwnA.nil (lo : Nat) (w : World) : OwnA lo w (.slice none 0 0) [] := ⟨⟨by simp [acells], .inl ⟨rfl, rfl⟩⟩, by simp [AFits], by simp⟩
theorem OwnA.rd {lo : Nat} {w : World} {v : Value} {l : List Attr} (h : OwnA lo w v l) : Rd KA (fun k => lo ≤ k) w v l := by
  obtain ⟨⟨h1, h2⟩, hf, hl⟩ := h
  rcases h2 with ⟨rfl, h0⟩ | ⟨g, cap, cur, rfl, hg, hh, hn, hm, hs, ht⟩
  · obtain rfl : l = [] := List.eq_nil_of_length_eq_zero h0
    exact Rd.nil _ _ _ _ _ (by simp)
  · refine ⟨_, cap, rfl, ⟨by simp, hn⟩, hl, fun k hk => ⟨g, 0, _, rfl, hg, (Array.getElem?_eq_some_iff.1 hh).1, ⟨rfl, hf _ (List.getElem_mem hk)⟩, fun j x hx => ?_⟩⟩
    have ha := acells_at l k hk
    rw [← ht] at ha
    have hsz : cur.size = cap * 2 := hs
    show w.cell? ⟨g, 0 + k * 2 + j, none⟩ = some x
    rw [Nat.zero_add, cell_of_row w g _ cur _ (0, 0) hh, ← Array.getElem?_toList]
    match j, hx with
    | 0, hx =>
      simp at hx
      have h := ha.1
      rw [List.getElem?_take_of_lt (by omega)] at h
      rw [← hx]; exact h
    | 1, hx =>
      simp at hx
      have h := ha.2
      rw [List.getElem?_take_of_lt (by omega)] at h
      rw [← hx]; exact h
    | j + 2, hx => simp at hx
theorem OwnA.kept {lo : Nat} {w w' : World} {v : Value} {l : List Attr} {row : Option Nat} (h : OwnA lo w v l) (hg : w.grownBy w' row) (hne : v.ownBlock = none ∨ v.ownBlock ≠ row) : OwnA lo w' v l := ⟨h.1.kept hg hne, h.2⟩
theorem grownBy_below {w w' : World} (h : Below w.heap.size w w') (row : Option Nat) : w.grownBy w' row := ⟨h.os, h.tape, h.output, h.size, fun k hk _ => h.block k hk⟩
theorem OwnA.below {lo : Nat} {w w' : World} {v : Value} {l : List Attr} (h : OwnA lo w v l) (hb : Below w.heap.size w w') : OwnA lo w' v l := h.kept (grownBy_below hb none) (by cases v.ownBlock <;> simp)
theorem OwnA.mono {lo lo' : Nat} {w : World} {v : Value} {l : List Attr} (h : OwnA lo w v l) (hl : lo' ≤ lo) : OwnA lo' w v l := by
  obtain ⟨⟨h1, h2⟩, hf⟩ := h
  refine ⟨⟨h1, ?_⟩, hf⟩
  rcases h2 with h2 | ⟨g, cap, cur, e, hg, r⟩
  · exact .inl h2
  · exact .inr ⟨g, cap, cur, e, by omega, r⟩

theorem infoAttr : (Tryd.prog.info? 102).map (fun i => (i.zero, i.size, i.bytes)) = some (some (.agg #[.string ⟨#[]⟩, .string ⟨#[]⟩]), 2, 32) := by kernel_rfl

theorem Rd.fitsA {S : Nat → Prop} {w : World} {v : Value} {l : List Attr} (h : Rd KA S w v l) : AFits l := by
  obtain ⟨A, c, _, _, h⟩ := h
  intro a ha
  obtain ⟨k, hk, rfl⟩ := List.getElem_of_mem ha
  obtain ⟨b, o, _, _, _, _, _, h1, h2⟩ := h.attr k hk
  exact ⟨h1, h2⟩
theorem acells_one (l : List Attr) : ∀ u ∈ acells l, u.oneCell' = true := by
  intro u hu
  simp only [acells, List.mem_flatMap] at hu
  obtain ⟨a, _, hu⟩ := hu
  simp at hu
  rcases hu with rfl | rfl <;> rfl
theorem acells_from {S : Nat → Prop} {w : World} {b o : Nat} {sp : Option Nat} {l : List Attr} (h : RdS KA S w (some ⟨b, o, sp⟩) l) :
    ∀ j u, (acells l)[j]? = some u → w.cell? ((⟨b, o, sp⟩ : Addr).add j) = some u := by
  intro j u hu
  have hj : j < l.length * 2 := by
    have := (List.getElem?_eq_some_iff.1 hu).1
    rwa [acells_length] at this
  obtain ⟨b', o', e, _, _, h0, h1, _⟩ := h.attr (j / 2) (by omega)
  simp only [Option.some.injEq, Addr.mk.injEq] at e
  obtain ⟨rfl, rfl, rfl⟩ := e
  have ha := acells_at l (j / 2) (by omega)
  rw [Addr.add_lit]
  rcases Nat.mod_two_eq_zero_or_one j with hm | hm
  · have hjj : j / 2 * 2 = j := by omega
    rw [hjj] at ha h0
    rw [h0, ← ha.1, hu]
  · have hjj : j / 2 * 2 + 1 = j := by omega
    rw [hjj] at ha
    rw [Nat.add_assoc, hjj] at h1
    rw [h1, ← ha.2, hu]

section
variable {ops : Array Oper} {rest : List Oper} {o : Oper} {a : Act} {Q : Exit → Act → World → Prop} {w : World}
/-- append of attributes that are read, behind such as are the call's own. -/
theorem wpList_append_attrs (hgd : o.guard = none) (s x : Operand) (ho : o.op = .call { callee := .builtin .append, args := #[s, x], argTypes := #[28, 28] })
    (base : Nat) (v src : Value) (m l : List Attr) (S : Nat → Prop) (hs : a.eval s = v) (hx : a.eval x = src) (hown : w.ownsRow base 102 2 v m.length (acells m)) (hr : Rd KA S w src l)
    (hb : (m.length + l.length) * 32 ≤ 140737488355328) (hbase : base ≤ w.heap.size)
    (h : ∀ v' w', w'.ownsRow base 102 2 v' (m ++ l).length (acells (m ++ l)) → w.grownBy w' v.ownBlock → wpList Tryd.prog ops Q rest (a.put o.dst v') w') : wpList Tryd.prog ops Q (o :: rest) a w := by
  obtain ⟨i, hi, hz0, hz1, hz2⟩ := info_parts infoAttr
  obtain ⟨A, c, rfl, hn, hr⟩ := hr
  cases A with
  | none =>
    have hl : l = [] := by
      rcases l with _ | ⟨y, l⟩
      · rfl
      · obtain ⟨_, _, e, _⟩ := hr.attr 0 (by simp)
        cases e
    subst hl
    obtain rfl : c = 0 := hn.1 rfl
    exact wpList_append_own_none hgd s x _ ho base _ i 2 Tryd.underlying28 hi v _ _ hs hown hx (h _ _ (by simpa using hown) (World.grownBy.refl _ _))
  | some ad =>
    obtain ⟨b, o', sp⟩ := ad
    refine wpList_append_own w hgd s x _ ho base _ i _ 2 32 Tryd.underlying28 hi hz0 hz1 hz2 rfl (by decide) v _ _ hs hown ⟨b, o', sp⟩ l.length c (acells l) hx (acells_length l) (acells_from hr) (acells_one l)
      (by unfold maxLen; omega) hb hbase ?_
    intro v' w' h1 h2 _
    exact h v' w' (by simpa [acells_append] using h1) h2
/-- append of one attribute, behind such as are the call's own. -/
theorem wpList_append_attr1 (hgd : o.guard = none) (s x : Operand) (ho : o.op = .call { callee := .builtin .append, args := #[s, x], argTypes := #[28, 28] })
    (base : Nat) (v : Value) (m : List Attr) (k1 v1 : ByteArray) (B : Nat) (hs : a.eval s = v) (hx : a.eval x = .slice (some ⟨B, 0, none⟩) 1 1) (hB : B = w.heap.size) (hown : w.ownsRow base 102 2 v m.length (acells m))
    (hb : (m.length + 1) * 32 ≤ 140737488355328) (hbase : base ≤ w.heap.size)
    (h : ∀ v' w', w'.ownsRow base 102 2 v' (m ++ [({ key := k1, val := v1 } : Attr)]).length (acells (m ++ [({ key := k1, val := v1 } : Attr)])) → w.grownBy w' v.ownBlock → wpList Tryd.prog ops Q rest (a.put o.dst v') w') :
    wpList Tryd.prog ops Q (o :: rest) a (w.alloc (.cells #[.string k1, .string v1] 102)) := by
  obtain ⟨i, hi, hz0, hz1, hz2⟩ := info_parts infoAttr
  subst hB
  refine wpList_append_own _ hgd s x _ ho base _ i _ 2 32 Tryd.underlying28 hi hz0 hz1 hz2 rfl (by decide) v _ _ hs (hown.alloc _) ⟨w.heap.size, 0, none⟩ 1 1 [.string k1, .string v1] hx rfl
    (World.news_of_block (cs := #[.string k1, .string v1]) (t := 102) (fr := (0, 0)) (heap_alloc_new w _)) (by simp [Value.oneCell']) (by unfold maxLen; omega) hb (by simp; omega) ?_
  intro v' w' h1 h2 _
  exact h v' w' (by simpa [acells_append, acells] using h1) (World.grownBy.trans (World.grownBy_alloc w _ _) h2)
/-- append of attributes to none. -/
theorem wpList_append_attrs0 (hgd : o.guard = none) (s x : Operand) (ho : o.op = .call { callee := .builtin .append, args := #[s, x], argTypes := #[28, 28] })
    (l : List Attr) (S : Nat → Prop) (hs : a.eval s = .slice none 0 0) {src : Value} (hx : a.eval x = src) (hr : Rd KA S w src l)
    (h : ∀ v' w', Below w.heap.size w w' → OwnA w.heap.size w' v' l → wpList Tryd.prog ops Q rest (a.put o.dst v') w') : wpList Tryd.prog ops Q (o :: rest) a w := by
  have hlen : l.length * 32 ≤ 140737488355328 := by
    obtain ⟨_, _, _, _, h⟩ := hr
    exact h.1
  refine wpList_append_attrs hgd s x ho w.heap.size (.slice none 0 0) src [] l S hs hx (OwnA.nil _ _).1 hr (by simpa using hlen) (Nat.le_refl _) fun v' w' h1 h2 => ?_
  exact h v' w' ⟨h2.os, h2.tape, h2.output, h2.size, fun k hk => h2.block k hk (by simp [Value.ownBlock])⟩ ⟨by simpa using h1, hr.fitsA, hlen⟩
end

set_option maxHeartbeats 2000000 in
theorem clone_any (v : Value) (l : List Attr) (S : Nat → Prop) (w : World) (h : Rd KA S w v l) :
    Calls Tryd.prog 146 #[v] w fun e w' => ∃ v', e = .returned v' ∧ Below w.heap.size w w' ∧ OwnA w.heap.size w' v' l := by
  have hfit := h.fitsA
  have hr0 := fun ob => h.below ((Below.refl w.heap.size w).alloc (Nat.le_refl _) ob)
  obtain ⟨A, c, rfl, hn, hr⟩ := h
  have hlen := hr.1
  cases A with
  | none =>
    have hl : l = [] := by
      rcases l with _ | ⟨y, l⟩
      · rfl
      · obtain ⟨_, _, e, _⟩ := hr.attr 0 (by simp)
        cases e
    subst hl
    obtain rfl : c = 0 := hn.1 rfl
    have q1 := fun (w : World) => Lib.run_eql_slice_nil w 28 102 none 0 0 0 0 Tryd.underlying28
    clear hr0 hn hlen hfit
    go_enter Tryd.func146, Tryd.ntmps146
    go_wp2_with fail
    go_ret
    exact ⟨_, rfl, Below.refl _ _, OwnA.nil _ _⟩
  | some ad =>
    have q1 := fun (w : World) => Lib.run_eql_slice_nil w 28 102 (some ad) l.length c 0 0 Tryd.underlying28
    simp only [Option.isNone_some] at q1
    clear hn
    go_enter Tryd.func146, Tryd.ntmps146
    go_wp2_with (at_builtin; refine wpList_append_attrs rfl _ _ rfl w.heap.size (.slice (some ⟨w.heap.size, 0, none⟩) 0 0) _ [] l S rfl rfl (World.ownsRow_made w #[] 0 (Nat.le_refl _) (by simp [maxLen]) rfl) (hr0 _) (by simpa [KA] using hlen) (by simp) ?_; intro v' w1 hown hg)
    go_ret
    exact ⟨_, rfl, ((Below.refl _ _).alloc (Nat.le_refl _) _).grown hg (by simp) (by simp [Value.ownBlock]), ⟨by simpa using hown, hfit, hlen⟩⟩

end Go.Proofs.YtaemajcpgmaapaaDoor
