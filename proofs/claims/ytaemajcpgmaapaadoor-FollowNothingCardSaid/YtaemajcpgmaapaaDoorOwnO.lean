/- Operations of the call's own; a frame that says which blocks may have changed. -/
import Derived.Test.YtaemajcpgmaapaaDoorOwn
import Derived.Maps.AppendAt
namespace Go.Proofs.YtaemajcpgmaapaaDoor
open Go.RowKit

/-- Between the two worlds only blocks of X may have changed; new ones may have come. -/
structure Chg (X : Nat → Prop) (w w' : World) : Prop where
  os : w'.os = w.os
  tape : w'.tape = w.tape
  output : w'.output = w.output
  size : w.heap.size ≤ w'.heap.size
  block : ∀ k, k < w.heap.size → ¬ X k → w'.heap[k]? = w.heap[k]?
section
variable {X Y : Nat → Prop} {w w1 w2 w' : World}
theorem Chg.refl (X : Nat → Prop) (w : World) : Chg X w w := ⟨rfl, rfl, rfl, Nat.le_refl _, fun _ _ _ => rfl⟩
theorem Chg.mono (h : Chg X w w') (hi : ∀ k, k < w.heap.size → X k → Y k) : Chg Y w w' := ⟨h.os, h.tape, h.output, h.size, fun k hk hy => h.block k hk fun hx => hy (hi k hk hx)⟩
/-- What the second may change beside X is what the first has laid. -/
theorem Chg.trans (h : Chg X w w1) (k : Chg Y w1 w2) (hi : ∀ k, k < w.heap.size → Y k → X k) : Chg X w w2 :=
  ⟨k.os.trans h.os, k.tape.trans h.tape, k.output.trans h.output, Nat.le_trans h.size k.size, fun j hj hx => (k.block j (Nat.lt_of_lt_of_le hj h.size) fun hy => hx (hi j hj hy)).trans (h.block j hj hx)⟩
theorem Chg.of_below (h : Below w.heap.size w w') (X : Nat → Prop) : Chg X w w' := ⟨h.os, h.tape, h.output, h.size, fun k hk _ => h.block k hk⟩
theorem Chg.of_grown {row : Option Nat} (h : w.grownBy w' row) (hi : ∀ k, row = some k → X k) : Chg X w w' := ⟨h.os, h.tape, h.output, h.size, fun k hk hx => h.block k hk fun e => hx (hi k e.symm)⟩
theorem Chg.below {lo : Nat} (h : Chg X w w') (hlo : lo ≤ w.heap.size) (hi : ∀ k, X k → lo ≤ k) : Below lo w w' :=
  ⟨h.os, h.tape, h.output, h.size, fun k hk => h.block k (by omega) fun hx => by have := hi k hx; omega⟩
theorem Chg.alloc (h : Chg X w w1) (o : Obj) : Chg X w (w1.alloc o) := h.trans (Chg.of_below ((Below.refl _ _).alloc (Nat.le_refl _) o) X) fun _ _ hx => hx
theorem Chg.drew (h : Chg X w w1) : Chg X w w1.drew := ⟨h.os, h.tape, h.output, h.size, h.block⟩
theorem Chg.drewN (h : Chg X w w1) (n : Nat) : Chg X w (w1.drewN n) := ⟨h.os, h.tape, h.output, h.size, h.block⟩
theorem Chg.setCell (h : Chg X w w1) {p : Addr} (u : Value) (hp : p.block < w.heap.size → X p.block) : Chg X w (w1.setCell p u) :=
  h.trans (Y := fun k => k = p.block) ⟨rfl, rfl, rfl, by simp [World.setCell], fun k _ hx => Below.heap_setCell w1 p u k hx⟩ fun k hk e => by subst e; exact hp hk
theorem Rd.chg {α : Type} {K : Kd α} {S : Nat → Prop} {v : Value} {l : List α} (h : Rd K S w v l) (hc : Chg X w w') (hs : ∀ k, S k → ¬ X k) : Rd K S w' v l := h.keep hc.size fun k hk hl => hc.block k hl (hs k hk)
theorem ownsRow_chg {lo e sz n : Nat} {v : Value} {xs : List Value} (h : w.ownsRow lo e sz v n xs) (hc : Chg X w w') (hs : ∀ k, v.ownBlock = some k → ¬ X k) : w'.ownsRow lo e sz v n xs := by
  obtain ⟨h1, h2⟩ := h
  refine ⟨h1, ?_⟩
  rcases h2 with h2 | ⟨g, cap, cur, rfl, hg, hh, r⟩
  · exact .inl h2
  · exact .inr ⟨g, cap, cur, rfl, hg, (hc.block g (Array.getElem?_eq_some_iff.1 hh).1 (hs g rfl)).trans hh, r⟩
theorem OwnA.chg {lo : Nat} {v : Value} {l : List Attr} (h : OwnA lo w v l) (hc : Chg X w w') (hs : ∀ k, v.ownBlock = some k → ¬ X k) : OwnA lo w' v l := ⟨ownsRow_chg h.1 hc hs, h.2⟩
end

def ocells (ps : List (Op × Value)) : List Value := ps.flatMap fun p => [.int .i64 p.1.kind, .int .i64 p.1.n, .string p.1.text, p.2]
theorem ocells_length (ps : List (Op × Value)) : (ocells ps).length = ps.length * 4 := by
  induction ps with
  | nil => rfl
  | cons a l ih => simp only [ocells, List.flatMap_cons, List.length_append, List.length_cons, List.length_nil] at *; omega
theorem ocells_at (ps : List (Op × Value)) (k : Nat) (hk : k < ps.length) : (ocells ps)[k * 4]? = some (.int .i64 ps[k].1.kind) ∧ (ocells ps)[k * 4 + 1]? = some (.int .i64 ps[k].1.n) ∧ (ocells ps)[k * 4 + 2]? = some (.string ps[k].1.text) ∧ (ocells ps)[k * 4 + 3]? = some ps[k].2 := by
  induction ps generalizing k with
  | nil => simp at hk
  | cons a l ih =>
    cases k with
    | zero => exact ⟨rfl, rfl, rfl, rfl⟩
    | succ k =>
      have := ih k (by simpa using hk)
      have e1 : (k + 1) * 4 = (k * 4) + 1 + 1 + 1 + 1 := by omega
      simp only [ocells, List.flatMap_cons] at this ⊢
      rw [e1]
      simpa using this
theorem ocells_append (l m : List (Op × Value)) : ocells (l ++ m) = ocells l ++ ocells m := by simp [ocells]

/-- Operations in memory that the call itself has made. -/
def OwnO (lo : Nat) (w : World) (v : Value) (l : List Op) : Prop :=
  ∃ ps : List (Op × Value), ps.map (·.1) = l ∧ w.ownsRow lo 30 4 v l.length (ocells ps) ∧ (∀ p ∈ ps, OwnA lo w p.2 p.1.attrs ∧ Fits p.1.text) ∧ l.length * 56 ≤ 140737488355328

theorem OwnO.nil (lo : Nat) (w : World) : OwnO lo w (.slice none 0 0) [] := ⟨[], rfl, ⟨by simp [ocells], .inl ⟨rfl, rfl⟩⟩, by simp, by simp⟩
/-- Two rows of elements of other types lie in other blocks. -/
theorem own_ne {w : World} {b b' e e' s s' n n' : Nat} {v v' : Value} {xs xs' : List Value} (h : w.ownsRow b e s v n xs) (h' : w.ownsRow b' e' s' v' n' xs') (hne : e ≠ e') : ∀ k, v.ownBlock = some k → v'.ownBlock ≠ some k := by
  intro k hk hk'
  rcases h.2 with ⟨rfl, _⟩ | ⟨g, cap, cur, rfl, _, hh, _⟩
  · simp [Value.ownBlock] at hk
  · rcases h'.2 with ⟨rfl, _⟩ | ⟨g', cap', cur', rfl, _, hh', _⟩
    · simp [Value.ownBlock] at hk'
    · simp [Value.ownBlock] at hk hk'
      subst hk hk'
      rw [hh] at hh'
      injection hh' with hh'
      injection hh' with _ ht
      exact hne ht
/-- A block of elements of another type is not a row's. -/
theorem own_ne_block {w : World} {b e s n g T : Nat} {v : Value} {xs : List Value} {cs : Array Value} {fr : Nat × Nat} (h : w.ownsRow b e s v n xs) (hb : w.heap[g]? = some (.cells cs T fr)) (hne : e ≠ T) : ∀ k, v.ownBlock = some k → k ≠ g := by
  intro k hk e1
  subst e1
  rcases h.2 with ⟨rfl, _⟩ | ⟨g, cap, cur, rfl, _, hh, _⟩
  · simp [Value.ownBlock] at hk
  · simp [Value.ownBlock] at hk
    subst hk
    rw [hh] at hb
    injection hb with hb
    injection hb with _ ht
    exact hne ht
theorem OwnO.lt {lo : Nat} {w : World} {v : Value} {l : List Op} (h : OwnO lo w v l) : ∀ k, v.ownBlock = some k → lo ≤ k ∧ k < w.heap.size := by
  obtain ⟨ps, _, h, _⟩ := h
  exact h.lt
theorem OwnO.chg {lo : Nat} {w w' : World} {X : Nat → Prop} {v : Value} {l : List Op} (h : OwnO lo w v l) (hc : Chg X w w') (hs : ∀ k, v.ownBlock = some k → ¬ X k) (ha : ∀ k, lo ≤ k → (∃ cs fr, w.heap[k]? = some (.cells cs 102 fr)) → ¬ X k) : OwnO lo w' v l := by
  obtain ⟨ps, e, h1, h2, h3⟩ := h
  refine ⟨ps, e, ownsRow_chg h1 hc hs, fun p hp => ⟨(h2 p hp).1.chg hc fun k hk => ?_, (h2 p hp).2⟩, h3⟩
  refine ha k ((h2 p hp).1.1.lt k hk).1 ?_
  rcases (h2 p hp).1.1.2 with ⟨e1, _⟩ | ⟨g, cap, cur, e1, _, hh, _⟩
  · rw [e1] at hk; simp [Value.ownBlock] at hk
  · rw [e1] at hk; simp [Value.ownBlock] at hk; subst hk; exact ⟨_, _, hh⟩
theorem OwnO.below {lo : Nat} {w w' : World} {v : Value} {l : List Op} (h : OwnO lo w v l) (hb : Below w.heap.size w w') : OwnO lo w' v l :=
  h.chg (X := fun _ => False) (Chg.of_below hb _) (fun _ _ h => h) (fun _ _ _ h => h)
theorem OwnO.rd {lo : Nat} {w : World} {v : Value} {l : List Op} (h : OwnO lo w v l) : Rd KO (fun k => lo ≤ k) w v l := by
  obtain ⟨ps, rfl, ⟨h1, h2⟩, hp, hl⟩ := h
  rcases h2 with ⟨rfl, h0⟩ | ⟨g, cap, cur, rfl, hg, hh, hn, hm, hs, ht⟩
  · have : ps.map (·.1) = [] := List.eq_nil_of_length_eq_zero h0
    rw [this]
    exact Rd.nil _ _ _ _ _ (by simp)
  · refine ⟨_, cap, rfl, ⟨by simp, hn⟩, hl, fun k hk => ?_⟩
    have hk' : k < ps.length := by simpa using hk
    have ha := ocells_at ps k hk'
    have hpk := hp ps[k] (List.getElem_mem hk')
    refine ⟨g, 0, _, rfl, hg, (Array.getElem?_eq_some_iff.1 hh).1, ⟨ps[k].2, rfl, by simpa using hpk.1.rd, by simpa using hpk.2⟩, fun j x hx => ?_⟩
    rw [← ht] at ha
    have hsz : cur.size = cap * 4 := hs
    have hlen : (ps.map (·.1)).length = ps.length := by simp
    show w.cell? ⟨g, 0 + k * 4 + j, none⟩ = some x
    rw [Nat.zero_add, cell_of_row w g _ cur _ (0, 0) hh, ← Array.getElem?_toList]
    match j, hx with
    | 0, hx =>
      simp at hx
      have h := ha.1
      rw [List.getElem?_take_of_lt (by omega)] at h
      rw [← hx]; exact h
    | 1, hx =>
      simp at hx
      have h := ha.2.1
      rw [List.getElem?_take_of_lt (by omega)] at h
      rw [← hx]; exact h
    | 2, hx =>
      simp at hx
      have h := ha.2.2.1
      rw [List.getElem?_take_of_lt (by omega)] at h
      rw [← hx]; exact h
    | 3, hx =>
      simp at hx
      have h := ha.2.2.2
      rw [List.getElem?_take_of_lt (by omega)] at h
      rw [← hx]; exact h
    | j + 4, hx => simp at hx

theorem infoOp : (Tryd.prog.info? 30).map (fun i => (i.zero, i.size, i.bytes)) = some (some (.agg #[.int .i64 0, .int .i64 0, .string ⟨#[]⟩, .slice none 0 0]), 4, 56) := by kernel_rfl
section
variable {ops : Array Oper} {rest : List Oper} {o : Oper} {a : Act} {Q : Exit → Act → World → Prop} {w : World}
/-- append of one operation, behind such as are the call's own. -/
theorem wpList_append_op1 (hgd : o.guard = none) (s x : Operand) (ho : o.op = .call { callee := .builtin .append, args := #[s, x], argTypes := #[22, 22] })
    (lo : Nat) (v : Value) (l : List Op) (p : Op) (va : Value) (B : Nat) (hs : a.eval s = v) (hx : a.eval x = .slice (some ⟨B, 0, none⟩) 1 1) (hB : B = w.heap.size) (hown : OwnO lo w v l) (hva : OwnA lo w va p.attrs) (hft : Fits p.text) (h1 : va.oneCell' = true)
    (hb : (l.length + 1) * 56 ≤ 140737488355328) (hbase : lo ≤ w.heap.size)
    (h : ∀ v' w', OwnO lo w' v' (l ++ [p]) → w.grownBy w' v.ownBlock → (v'.ownBlock = v.ownBlock ∨ ∃ b, v'.ownBlock = some b ∧ w.heap.size ≤ b) → wpList Tryd.prog ops Q rest (a.put o.dst v') w') :
    wpList Tryd.prog ops Q (o :: rest) a (w.alloc (.cells #[.int .i64 p.kind, .int .i64 p.n, .string p.text, va] 30)) := by
  obtain ⟨i, hi, hz0, hz1, hz2⟩ := info_parts infoOp
  obtain ⟨ps, rfl, hrow, hps, hl⟩ := hown
  subst hB
  have hbA : Below w.heap.size w (w.alloc (.cells #[.int .i64 p.kind, .int .i64 p.n, .string p.text, va] 30)) := (Below.refl _ _).alloc (Nat.le_refl _) _
  have hone : ∀ u ∈ [Value.int .i64 p.kind, .int .i64 p.n, .string p.text, va], u.oneCell' = true := by
    intro u hu
    simp only [List.mem_cons, List.not_mem_nil, or_false] at hu
    rcases hu with rfl | rfl | rfl | rfl
    · rfl
    · rfl
    · rfl
    · exact h1
  refine wpList_append_own_at _ hgd s x _ ho lo _ i _ 4 56 Tryd.underlying22 hi hz0 hz1 hz2 rfl (by decide) v _ _ hs (hrow.alloc _) ⟨w.heap.size, 0, none⟩ 1 1 [.int .i64 p.kind, .int .i64 p.n, .string p.text, va] hx rfl
    (World.news_of_block (cs := #[.int .i64 p.kind, .int .i64 p.n, .string p.text, va]) (t := 30) (fr := (0, 0)) (heap_alloc_new w _)) hone (by unfold maxLen; omega) hb (by simp; omega) ?_
  intro v' w' h2 h3 _ hat
  have hg : w.grownBy w' v.ownBlock := World.grownBy.trans (World.grownBy_alloc w _ _) h3
  refine h v' w' ⟨ps ++ [(p, va)], by simp, ?_, fun q hq => ?_, by simpa using hb⟩ hg ?_
  · have e : ocells (ps ++ [(p, va)]) = ocells ps ++ [.int .i64 p.kind, .int .i64 p.n, .string p.text, va] := by simp [ocells]
    rw [e]
    simpa using h2
  · have hc : Chg (fun k => v.ownBlock = some k) w w' := Chg.of_grown hg fun k hk => hk
    rcases List.mem_append.1 hq with hq | hq
    · exact ⟨(hps q hq).1.chg hc fun k hk e => own_ne (hps q hq).1.1 hrow (by decide) k hk e, (hps q hq).2⟩
    · simp at hq
      subst hq
      exact ⟨hva.chg hc fun k hk e => own_ne hva.1 hrow (by decide) k hk e, hft⟩
  · rcases hat with hat | hat
    · exact .inl hat
    · exact .inr ⟨_, hat, by simp⟩
end
end Go.Proofs.YtaemajcpgmaapaaDoor
