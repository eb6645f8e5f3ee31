/- Rows of operations that are the call's own, at any place of a block: what a reader holds. -/
import Derived.Test.YtaemajcpgmaapaaDoorNorm1
namespace Go.Proofs.YtaemajcpgmaapaaDoor
open Go.RowKit

theorem cnt_size {s : ByteArray} (h : cntErr s = 0) : s.size ≤ 80000 := by
  have hd : ∀ n b0 b1 b2 b3, (Lib.decodeN n b0 b1 b2 b3).2 ≤ 4 := by
    intro n b0 b1 b2 b3
    unfold Lib.decodeN
    repeat' split
    all_goals simp
  have hc : ∀ fuel pos, s.size ≤ pos + fuel → s.size ≤ pos + 4 * Lib.runeCountFrom s fuel pos := by
    intro fuel
    induction fuel with
    | zero => intro pos hp; omega
    | succ f ih =>
      intro pos hp
      unfold Lib.runeCountFrom
      split
      · rename_i hlt
        have h1 := Lib.decode_width_pos s pos hlt
        have h2 : (Utf8.decode s pos).2 ≤ 4 := by rw [Lib.decode_at]; exact hd _ _ _ _ _
        have := ih (pos + (Utf8.decode s pos).2) (by omega)
        omega
      · omega
  unfold cntErr at h
  split at h
  · rename_i h'
    have := hc s.size 0 (by omega)
    have h2 : Lib.runeCountFrom s s.size 0 ≤ 20000 := h'.2
    omega
  · cases h

/-- Operations in memory that the call itself has made, in a block of operations, at whatever place. -/
def RowO (lo : Nat) (w : World) (v : Value) (l : List Op) : Prop :=
  ∃ ps : List (Op × Value), ps.map (·.1) = l ∧
    ((v = .slice none 0 0 ∧ l = []) ∨ ∃ g off c cur, v = .slice (some ⟨g, off, none⟩) l.length c ∧ l.length ≤ c ∧ c ≤ 9223372036854775807 ∧ lo ≤ g ∧ w.heap[g]? = some (.cells cur 30 (0, 0)) ∧ ∀ j u, (ocells ps)[j]? = some u → cur[off + j]? = some u) ∧
    (∀ p ∈ ps, OwnA lo w p.2 p.1.attrs ∧ Fits p.1.text) ∧ l.length * 56 ≤ 140737488355328

theorem RowO.nil (lo : Nat) (w : World) : RowO lo w (.slice none 0 0) [] := ⟨[], rfl, .inl ⟨rfl, rfl⟩, by simp, by simp⟩
theorem OwnO.row {lo : Nat} {w : World} {v : Value} {l : List Op} (h : OwnO lo w v l) : RowO lo w v l := by
  obtain ⟨ps, hps, h1, h2, h3⟩ := h
  refine ⟨ps, hps, ?_, h2, h3⟩
  rcases h1.2 with ⟨rfl, h0⟩ | ⟨g, cap, cur, rfl, hg, hh, hn, hm, hs, ht⟩
  · exact .inl ⟨rfl, List.eq_nil_of_length_eq_zero h0⟩
  · refine .inr ⟨g, 0, cap, cur, rfl, hn, hm, hg, hh, fun j u hu => ?_⟩
    have hj : j < (ocells ps).length := (List.getElem?_eq_some_iff.1 hu).1
    rw [← ht] at hu
    rw [List.getElem?_take] at hu
    split at hu
    · rw [Nat.zero_add, ← Array.getElem?_toList]; exact hu
    · cases hu
/-- Cut at its end, its capacity whatever may be. -/
theorem RowO.cut {lo : Nat} {w : World} {A : Option Addr} {n c : Nat} {l l' : List Op} (h : RowO lo w (.slice A n c) (l ++ l')) (c' : Nat) (hc : l.length ≤ c') (hc2 : c' ≤ c) : RowO lo w (.slice A l.length c') l := by
  obtain ⟨ps, hps, h1, h2, h3⟩ := h
  refine ⟨ps.take l.length, by rw [List.map_take, hps]; simp, ?_, fun p hp => h2 p (List.mem_of_mem_take hp), by simp at h3; omega⟩
  rcases h1 with ⟨h1, h0⟩ | ⟨g, off, c0, cur, h1, hn, hm, hg, hh, hx⟩
  · have hl : l = [] := (List.append_eq_nil_iff.1 h0).1
    injection h1 with e1 e2 e3
    subst e1 hl e3
    obtain rfl : c' = 0 := by omega
    exact .inl ⟨rfl, rfl⟩
  · injection h1 with e1 e2 e3
    subst e1 e3
    refine .inr ⟨g, off, c', cur, rfl, hc, by omega, hg, hh, fun j u hu => hx j u ?_⟩
    have : ocells ps = ocells (ps.take l.length) ++ ocells (ps.drop l.length) := by rw [← ocells_append, List.take_append_drop]
    rw [this]
    obtain ⟨hj, _⟩ := List.getElem?_eq_some_iff.1 hu
    rw [List.getElem?_append_left hj]
    exact hu
theorem RowO.clip {lo : Nat} {w : World} {A : Option Addr} {n c : Nat} {l : List Op} (h : RowO lo w (.slice A n c) l) : n = l.length ∧ (A = none → c = 0) ∧ n ≤ c ∧ c ≤ 9223372036854775807 ∧ RowO lo w (.slice A n n) l := by
  have h0 := h
  obtain ⟨ps, hps, h1, h2, h3⟩ := h0
  have hn : n = l.length ∧ (A = none → c = 0) ∧ n ≤ c ∧ c ≤ 9223372036854775807 := by
    rcases h1 with ⟨h1, h0⟩ | ⟨g, off, c0, cur, h1, hn, hm, hg, hh, hx⟩
    · injection h1 with e1 e2 e3
      subst e1 e2 e3 h0
      simp
    · injection h1 with e1 e2 e3
      subst e1 e2 e3
      exact ⟨rfl, by simp, hn, hm⟩
  obtain ⟨rfl, hA, hle, hm⟩ := hn
  refine ⟨rfl, hA, hle, hm, ?_⟩
  have := RowO.cut (l' := []) (by simpa using h) l.length (Nat.le_refl _) hle
  exact this
theorem RowO.lt {lo : Nat} {w : World} {v : Value} {l : List Op} (h : RowO lo w v l) : ∀ k, v.ownBlock = some k → lo ≤ k ∧ k < w.heap.size ∧ ∃ cur, w.heap[k]? = some (.cells cur 30 (0, 0)) := by
  obtain ⟨ps, _, h1, _⟩ := h
  intro k hk
  rcases h1 with ⟨rfl, _⟩ | ⟨g, off, c0, cur, rfl, hn, hm, hg, hh, hx⟩
  · simp [Value.ownBlock] at hk
  · simp [Value.ownBlock] at hk
    subst hk
    exact ⟨hg, (Array.getElem?_eq_some_iff.1 hh).1, cur, hh⟩
theorem RowO.chg {lo : Nat} {w w' : World} {X : Nat → Prop} {v : Value} {l : List Op} (h : RowO lo w v l) (hc : Chg X w w') (hs : ∀ k, v.ownBlock = some k → ¬ X k) (ha : ∀ k, lo ≤ k → (∃ cs fr, w.heap[k]? = some (.cells cs 102 fr)) → ¬ X k) : RowO lo w' v l := by
  obtain ⟨ps, e, h1, h2, h3⟩ := h
  refine ⟨ps, e, ?_, fun p hp => ⟨(h2 p hp).1.chg hc fun k hk => ?_, (h2 p hp).2⟩, h3⟩
  · rcases h1 with h1 | ⟨g, off, c0, cur, rfl, hn, hm, hg, hh, hx⟩
    · exact .inl h1
    · exact .inr ⟨g, off, c0, cur, rfl, hn, hm, hg, (hc.block g (Array.getElem?_eq_some_iff.1 hh).1 (hs g rfl)).trans hh, hx⟩
  refine ha k ((h2 p hp).1.1.lt k hk).1 ?_
  rcases (h2 p hp).1.1.2 with ⟨e1, _⟩ | ⟨g, cap, cur, e1, _, hh, _⟩
  · rw [e1] at hk; simp [Value.ownBlock] at hk
  · rw [e1] at hk; simp [Value.ownBlock] at hk; subst hk; exact ⟨_, _, hh⟩
theorem RowO.below {lo : Nat} {w w' : World} {v : Value} {l : List Op} (h : RowO lo w v l) (hb : Below w.heap.size w w') : RowO lo w' v l :=
  h.chg (X := fun _ => False) (Chg.of_below hb _) (fun _ _ h => h) (fun _ _ _ h => h)
theorem RowO.mono {lo lo' : Nat} {w : World} {v : Value} {l : List Op} (h : RowO lo w v l) (hl : lo' ≤ lo) : RowO lo' w v l := by
  obtain ⟨ps, e, h1, h2, h3⟩ := h
  refine ⟨ps, e, ?_, fun p hp => ⟨(h2 p hp).1.mono hl, (h2 p hp).2⟩, h3⟩
  rcases h1 with h1 | ⟨g, off, c0, cur, rfl, hn, hm, hg, hh, hx⟩
  · exact .inl h1
  · exact .inr ⟨g, off, c0, cur, rfl, hn, hm, by omega, hh, hx⟩
theorem RowO.rd {lo : Nat} {w : World} {v : Value} {l : List Op} (h : RowO lo w v l) : Rd KO (fun k => lo ≤ k) w v l := by
  obtain ⟨ps, rfl, h2, hp, hl⟩ := h
  rcases h2 with ⟨rfl, h0⟩ | ⟨g, off, c, cur, rfl, hn, hm, hg, hh, hx⟩
  · rw [h0]
    exact Rd.nil _ _ _ _ _ (by simp)
  · refine ⟨_, c, rfl, ⟨by simp, hn⟩, hl, fun k hk => ?_⟩
    have hk' : k < ps.length := by simpa using hk
    have ha := ocells_at ps k hk'
    have hpk := hp ps[k] (List.getElem_mem hk')
    refine ⟨g, off, _, rfl, hg, (Array.getElem?_eq_some_iff.1 hh).1, ⟨ps[k].2, rfl, by simpa using hpk.1.rd, by simpa using hpk.2⟩, fun j x hj => ?_⟩
    show w.cell? ⟨g, off + k * 4 + j, none⟩ = some x
    rw [cell_of_row w g _ cur _ (0, 0) hh, Nat.add_assoc]
    refine hx _ _ ?_
    match j, hj with
    | 0, hj => simp at hj; rw [← hj]; exact ha.1
    | 1, hj => simp at hj; rw [← hj]; exact ha.2.1
    | 2, hj => simp at hj; rw [← hj]; exact ha.2.2.1
    | 3, hj => simp at hj; rw [← hj]; exact ha.2.2.2
    | j + 4, hj => simp at hj
end Go.Proofs.YtaemajcpgmaapaaDoor
