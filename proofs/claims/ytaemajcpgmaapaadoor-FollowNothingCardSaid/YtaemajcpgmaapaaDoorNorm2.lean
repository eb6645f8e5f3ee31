/- What change.Normal makes: in plain Lean. -/
import Derived.Test.YtaemajcpgmaapaaDoorRowO
namespace Go.Proofs.YtaemajcpgmaapaaDoor
open Go.RowKit

def nStep (s : List Op × Int) (o : Op) : List Op × Int :=
  if o.kind = 1 then (putL (flushL s).1 o, (flushL s).2) else if o.kind = 2 then (putL s.1 o, s.2) else if o.kind = 3 then (s.1, wrap64 (s.2 + o.n)) else s
/-- Without a keep at the end that does nothing. -/
def trimL (l : List Op) : List Op := match l.getLast? with
  | none => l
  | some x => if x.kind = 1 ∧ x.attrs = [] then l.dropLast else l
def normS (ops : List Op) : List Op × Int := flushL (ops.foldl nStep ([], 0))
def normL (ops : List Op) : List Op := trimL (normS ops).1
/-- change.Normal: the changeset, its error. -/
def nmR (c : Change) : Change × Int := if (toR c).2 = 0 then (⟨c.from_, normL c.ops⟩, 0) else (⟨0, []⟩, (toR c).2)

def NB (k : Nat) (s : List Op × Int) : Prop := s.1.length ≤ 2 * k ∧ ∀ x ∈ s.1, x.text.size ≤ k * 80000
theorem putL_bd {l : List Op} {o : Op} {M : Nat} (h : ∀ x ∈ l, x.text.size ≤ M) : (putL l o).length ≤ l.length + 1 ∧ ∀ x ∈ putL l o, x.text.size ≤ M + o.text.size := by
  unfold putL
  rcases List.eq_nil_or_concat l with rfl | ⟨l0, x, rfl⟩
  · simp
  · rw [List.concat_eq_append] at *
    have hl : (l0 ++ [x]).getLast? = some x := by simp
    rw [hl]
    dsimp only
    have hx := h x (by simp)
    split
    · rw [List.dropLast_concat]
      refine ⟨by simp, fun y hy => ?_⟩
      rcases List.mem_append.1 hy with hy | hy
      · have := h y (by simp [hy]); omega
      · simp at hy; subst hy; simp [ByteArray.size_append]; omega
    · refine ⟨by simp, fun y hy => ?_⟩
      rcases List.mem_append.1 hy with hy | hy
      · have := h y hy; omega
      · simp at hy; subst hy; omega
theorem flushL_bd {s : List Op × Int} {M : Nat} (h : ∀ x ∈ s.1, x.text.size ≤ M) : (flushL s).1.length ≤ s.1.length + 1 ∧ ∀ x ∈ (flushL s).1, x.text.size ≤ M := by
  unfold flushL
  split
  · have := putL_bd (o := ⟨3, s.2, ⟨#[]⟩, []⟩) h
    exact ⟨this.1, fun x hx => by have := this.2 x hx; have e : (⟨#[]⟩ : ByteArray).size = 0 := rfl; simp only [e] at this; omega⟩
  · exact ⟨by omega, h⟩
theorem NB.step {k : Nat} {s : List Op × Int} {o : Op} (h : NB k s) (ho : o.text.size ≤ 80000) : NB (k + 1) (nStep s o) := by
  unfold nStep
  have hf := flushL_bd h.2
  split
  · have hp := putL_bd (o := o) hf.2
    have := h.1
    exact ⟨by show (putL _ _).length ≤ _; omega, fun x hx => by have := hp.2 x hx; omega⟩
  · split
    · have hp := putL_bd (o := o) h.2
      have := h.1
      exact ⟨by show (putL _ _).length ≤ _; omega, fun x hx => by have := hp.2 x hx; omega⟩
    · split
      · exact ⟨Nat.le_trans h.1 (by omega), fun x hx => Nat.le_trans (h.2 x hx) (Nat.mul_le_mul_right _ (by omega))⟩
      · exact ⟨Nat.le_trans h.1 (by omega), fun x hx => Nat.le_trans (h.2 x hx) (Nat.mul_le_mul_right _ (by omega))⟩

/-- What an operation that may be is. -/
def opOk (o : Op) : Prop := shapedB o = true ∧ (o.kind = 2 → cntErr o.text = 0 ∧ rtErr o.attrs = 0) ∧ (o.kind ≠ 2 → chErr o.attrs = 0)
theorem oneR_ok {o : Op} {left : Int} (h : (oneR o left).2.2 = 0) : opOk o := by
  unfold oneR at h
  split at h
  · cases h
  · rename_i hs
    refine ⟨by simpa using hs, fun h2 => ?_, fun h2 => ?_⟩
    · rw [if_pos h2] at h
      split at h
      · rename_i hc; exact ⟨hc, h⟩
      · rename_i hc; exact absurd h hc
    · rw [if_neg h2] at h
      split at h
      · assumption
      · exact h
theorem toGo_ok : ∀ (l : List Op) (left n : Int), (toGo l left n).2 = 0 → ∀ o ∈ l, opOk o
  | [], _, _, _ => by simp
  | o :: l, left, n, h => by
    unfold toGo at h
    split at h
    · rename_i h1
      intro x hx
      rcases List.mem_cons.1 hx with rfl | hx
      · exact oneR_ok h1
      · exact toGo_ok l _ _ h x hx
    · rename_i h1; exact absurd h h1
theorem toR_ok {c : Change} (h : (toR c).2 = 0) : 0 ≤ c.from_ ∧ c.from_ ≤ 20000 ∧ c.ops.length ≤ 2000 ∧ ∀ o ∈ c.ops, opOk o := by
  unfold toR at h
  split at h
  · cases h
  · split at h
    · cases h
    · exact ⟨by omega, by omega, by omega, toGo_ok _ _ _ h⟩
theorem toList_emp {s : ByteArray} (h : s.toList.isEmpty = true) : s = ⟨#[]⟩ := toList_inj (by rw [List.isEmpty_iff.1 h, ByteArray.toList_eq])
theorem opOk.size {o : Op} (h : opOk o) : o.text.size ≤ 80000 := by
  by_cases h2 : o.kind = 2
  · exact cnt_size (h.2.1 h2).1
  · have := h.1
    unfold shapedB at this
    rw [if_neg h2] at this
    have he : o.text.toList.isEmpty = true := by
      split at this
      · simp only [Bool.and_eq_true] at this; exact this.2.1
      · simp only [Bool.and_eq_true] at this; exact this.2.2
    rw [toList_emp he]
    show (0 : Nat) ≤ _; omega
end Go.Proofs.YtaemajcpgmaapaaDoor
