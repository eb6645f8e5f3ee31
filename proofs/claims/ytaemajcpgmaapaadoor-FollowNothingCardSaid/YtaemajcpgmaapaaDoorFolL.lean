/- follow.Follow's answer, and its laws. Plain Lean. -/
import Derived.Test.YtaemajcpgmaapaaDoorToL
namespace Go.Proofs.YtaemajcpgmaapaaDoor
open Go.RowKit
open Go.Lib

/-- How long the writer says what comes of it is. -/
def lStep (n : Int) (o : Op) : Int := if o.kind = 2 then wrap64 (n + runeCount o.text) else if o.kind = 3 then wrap64 (n - o.n) else n
def folOut (first : Bool) (a b : Change) : List Op := folGo first (ms (normL a.ops) + ms (normL b.ops)) (normL a.ops) (normL b.ops)
/-- follow.Follow: the changeset, its error. -/
def folR (first : Bool) (a b : Change) : Change × Int :=
  if (toR a).2 ≠ 0 then (⟨0, []⟩, (toR a).2)
  else if (toR b).2 ≠ 0 then (⟨0, []⟩, (toR b).2)
  else if a.from_ ≠ b.from_ then (⟨0, []⟩, 31)
  else if 20000 < (folOut first a b).foldl lStep (toR a).1 then (⟨0, []⟩, 3)
  else if 2000 < (normL (folOut first a b)).length then (⟨0, []⟩, 2)
  else (⟨(toR a).1, normL (folOut first a b)⟩, 0)

/-- The normal form is no longer. -/
theorem putL_len (l : List Op) (o : Op) : (putL l o).length ≤ l.length + 1 := (putL_bd (M := (l.map fun x => x.text.size).sum) (fun x hx => by
  induction l with
  | nil => cases hx
  | cons a l ih =>
    simp only [List.map_cons, List.sum_cons]
    cases hx with
    | head => omega
    | tail _ hx => have := ih hx; omega)).1
def wt (g : Int) : Nat := if 0 < g then 1 else 0
theorem fold_len : ∀ (ops l : List Op) (g : Int), Gds ops → 0 ≤ g → g + need (ats ops) ≤ 4611686018427387904 →
    (ops.foldl nStep (l, g)).1.length + wt (ops.foldl nStep (l, g)).2 ≤ l.length + wt g + ops.length
  | [], l, g, _, _, _ => by simp
  | o :: ops, l, g, ho, hg, hb => by
    have hn := (ho o (.head _)).need
    rw [ats_cons, need_append] at hb
    simp only [List.foldl_cons, List.length_cons]
    rcases ho o (.head _) with ⟨k1, n1, _⟩ | ⟨k1, n1, _⟩ | ⟨k1, n1, _⟩
    · have e : nStep (l, g) o = (putL l o, g) := by unfold nStep; rw [if_neg (by omega), if_pos k1]
      rw [e]
      have := fold_len ops (putL l o) g ho.tail hg (by omega)
      have := putL_len l o
      omega
    · have e : nStep (l, g) o = (l, g + o.n) := by
        unfold nStep; rw [if_neg (by omega), if_neg (by omega), if_pos k1]
        dsimp only
        rw [w64 (by omega) (by omega)]
      rw [e]
      have := fold_len ops l (g + o.n) ho.tail (by omega) (by omega)
      have h1 : wt (g + o.n) = 1 := if_pos (by omega)
      omega
    · have hf : (flushL (l, g)).1.length ≤ l.length + wt g ∧ (flushL (l, g)).2 = 0 := by
        unfold flushL wt
        by_cases h : 0 < g
        · rw [if_pos h, if_pos h]; exact ⟨putL_len _ _, rfl⟩
        · rw [if_neg h, if_neg h]; exact ⟨by simp, by dsimp only; omega⟩
      have e : nStep (l, g) o = (putL (flushL (l, g)).1 o, 0) := by unfold nStep; rw [if_pos k1, hf.2]
      rw [e]
      have := fold_len ops (putL (flushL (l, g)).1 o) 0 ho.tail (by omega) (by omega)
      have := putL_len (flushL (l, g)).1 o
      have h0 : wt 0 = 0 := rfl
      omega
theorem trimL_len (l : List Op) : (trimL l).length ≤ l.length := by
  unfold trimL
  split
  · exact Nat.le_refl _
  · split
    · rw [List.length_dropLast]; omega
    · exact Nat.le_refl _
theorem normL_len {ops : List Op} (h : Gds ops) (hb : need (ats ops) ≤ 4611686018427387904) : (normL ops).length ≤ ops.length := by
  have h1 := fold_len ops [] 0 h (by omega) (by omega)
  have h3 := (fold_law ops [] 0 h (fun _ h => by cases h) trivial (by omega) (by rw [ats_nil, need]; omega)).2.2.1
  unfold normL normS
  refine Nat.le_trans (trimL_len _) ?_
  generalize ops.foldl nStep ([], 0) = s at *
  obtain ⟨l, g⟩ := s
  have h0 : wt 0 = 0 := rfl
  dsimp only at h1 h3
  unfold flushL
  by_cases hg : 0 < g
  · rw [if_pos hg]
    have h2 := putL_len l ⟨3, g, ⟨#[]⟩, []⟩
    have : wt g = 1 := if_pos hg
    dsimp only at h2 ⊢
    rw [List.length_nil] at h1
    omega
  · rw [if_neg hg]
    rw [List.length_nil] at h1
    dsimp only
    omega
theorem fold_long : ∀ (l : List Op) (n : Int), Gds l → (need (ats l) : Int) ≤ n → n + insC (ats l) ≤ 4611686018427387904 → l.foldl lStep n = n + insC (ats l) - delC (ats l)
  | [], n, _, _, _ => by simp [ats, insC, delC]
  | o :: l, n, h, hn, hb => by
    have ho := h o (.head _)
    have hnd := ho.need
    rw [ats_cons, need_append] at hn
    rw [ats_cons, insC_append] at hb
    rw [ats_cons, insC_append, delC_append, List.foldl_cons]
    rcases ho with ⟨k, n1, _⟩ | ⟨k, n1, _⟩ | ⟨k, n1, _⟩
    · have e : lStep n o = n + insC (opAt o) := by
        unfold lStep
        rw [opAt2 k, insC_map, if_pos k, count_chs, w64 (by omega)]
        rw [opAt2 k, insC_map] at hb
        omega
      have e0 : delC (opAt o) = 0 := by rw [opAt2 k, delC_map]
      rw [e, fold_long l _ h.tail (by omega) (by omega)]
      omega
    · have e : lStep n o = n - o.n := by
        unfold lStep
        rw [if_neg (by omega), if_pos k, w64 (by omega) (by omega)]
      have e0 : (delC (opAt o) : Int) = o.n := by rw [opAt3 k, delC_dels]; omega
      have e1 : insC (opAt o) = 0 := by rw [opAt3 k, insC_rep .del trivial]
      rw [e, fold_long l _ h.tail (by omega) (by omega)]
      omega
    · have e : lStep n o = n := by unfold lStep; rw [if_neg (by omega), if_neg (by omega)]
      have e0 : delC (opAt o) = 0 := by rw [opAt1 k, delC_keeps]
      have e1 : insC (opAt o) = 0 := by rw [opAt1 k, insC_rep (.keep o.attrs) trivial]
      rw [e, fold_long l _ h.tail (by omega) (by omega)]
      omega
theorem insC_trimA : ∀ x, insC (trimA x) = insC x
  | [] => rfl
  | a :: x => by
    have ih := insC_trimA x
    unfold trimA
    split
    · next h => rw [h.2] at ih; rw [h.1]; simpa [insC] using ih
    · cases a <;> simp [insC, ih]
theorem insC_cn : ∀ x g, insC (cn x g) = insC x
  | [], g => by simp [cn, insC, insC_rep .del trivial]
  | .ins _ _ :: r, g => by simp [cn, insC, insC_cn r g]
  | .del :: r, g => by simp [cn, insC, insC_cn r (g + 1)]
  | .keep _ :: r, g => by simp [cn, insC, insC_append, insC_cn r 0, insC_rep .del trivial]
theorem Rt.ins {c : Change} (h : Rt c) : insC (ats c.ops) ≤ 20000 := by
  have := h.big; have := h.fits; have := delC_le (ats c.ops); omega
theorem Rt.small' {c : Change} (h : Rt c) : need (ats c.ops) ≤ 4611686018427387904 := by have := h.small; omega
theorem Rt.nG {c : Change} (h : Rt c) : Gds (normL c.ops) := (normL_law h.gd h.small').1
theorem Rt.nAts {c : Change} (h : Rt c) : ats (normL c.ops) = trimA (cn (ats c.ops) 0) := (normL_law h.gd h.small').2.2.1
theorem Rt.nNeed {c : Change} (h : Rt c) : need (ats (normL c.ops)) ≤ need (ats c.ops) := need_normL h.gd h.small'
theorem Rt.nIns {c : Change} (h : Rt c) : insC (ats (normL c.ops)) = insC (ats c.ops) := by rw [h.nAts, insC_trimA, insC_cn]
theorem Rt.nAct {c : Change} (h : Rt c) (L : List Cell) (hL : CS L) : act L (ats (normL c.ops)) = act L (ats c.ops) := act_normL h.gd h.small' L hL
theorem Rt.nLen {c : Change} (h : Rt c) : (normL c.ops).length ≤ 2000 := Nat.le_trans (normL_len h.gd h.small') h.len
/-- A changeset's normal form may be. -/
theorem Rt.norm {c : Change} (h : Rt c) : Rt ⟨c.from_, normL c.ops⟩ := by
  refine rt_of h.lo h.hi h.nLen h.nG (by have := h.nNeed; have := h.fits; omega) ?_
  rw [h.nAct _ (genFrom_cs _ _)]
  have h1 : ((act (genFrom 0 c.from_.toNat) (ats c.ops)).length : Int) = (toR c).1 := h.long
  have h2 : (toR c).1 = c.from_ + insC (ats c.ops) - delC (ats c.ops) := by rw [h.to]
  have := h.big
  show ((act (genFrom 0 c.from_.toNat) (ats c.ops)).length : Int) ≤ 20000
  omega

theorem insC_fol (first : Bool) (x y : List At) : insC (folA first x y) = insC y := by
  match x, y with
  | [], [] => simp only [folA]
  | .ins c a :: x, [] => rw [folA]; exact insC_fol first x []
  | .del :: x, [] => rw [folA]; exact insC_fol first x []
  | .keep u :: x, [] => rw [folA]; exact insC_fol first x []
  | [], .ins c a :: y => rw [folA]; simp only [insC]; rw [insC_fol first [] y]
  | [], .del :: y => rw [folA]; exact insC_fol first [] y
  | [], .keep u :: y => rw [folA]; exact insC_fol first [] y
  | .ins c a :: x, .ins d b :: y =>
    rw [folA]
    split
    · simp only [insC]; rw [insC_fol first (.ins c a :: x) y]
    · simp only [insC]; rw [insC_fol first x (.ins d b :: y)]; rfl
  | .ins c a :: x, .del :: y => rw [folA]; exact insC_fol first x (.del :: y)
  | .ins c a :: x, .keep v :: y => rw [folA]; exact insC_fol first x (.keep v :: y)
  | .del :: x, .ins d b :: y => rw [folA]; simp only [insC]; rw [insC_fol first (.del :: x) y]
  | .keep u :: x, .ins d b :: y => rw [folA]; simp only [insC]; rw [insC_fol first (.keep u :: x) y]
  | .del :: x, .del :: y => rw [folA]; exact insC_fol first x y
  | .del :: x, .keep v :: y => rw [folA]; exact insC_fol first x y
  | .keep u :: x, .del :: y => rw [folA]; exact insC_fol first x y
  | .keep u :: x, .keep v :: y => rw [folA]; exact insC_fol first x y
termination_by x.length + y.length

/-- What Follow writes. -/
structure FolS (first : Bool) (a b : Change) : Prop where
  gd : Gds (folOut first a b)
  at_ : ats (folOut first a b) = folA first (ats (normL a.ops)) (ats (normL b.ops))
  need_ : need (ats (folOut first a b)) ≤ (act (gen a) (ats a.ops)).length
  long : (folOut first a b).foldl lStep (toR a).1 = ((act (act (gen a) (ats a.ops)) (ats (folOut first a b))).length : Int)
theorem fol_spec {first : Bool} {a b : Change} (ha : Rt a) (hb : Rt b) (hf : a.from_ = b.from_) : FolS first a b := by
  have hna := ha.nNeed
  have hnb := hb.nNeed
  have sa := ha.small
  have sb := hb.small
  obtain ⟨g, e⟩ := folGo_law first _ (normL a.ops) (normL b.ops) ha.nG hb.nG (by omega) (by omega) (Nat.le_refl _)
  have fa := ha.fit
  have fb := hb.fit
  have gl : (gen a).length = (gen b).length := by rw [gen_len, gen_len, hf]
  have hn : need (ats (folOut first a b)) ≤ (act (gen a) (ats a.ops)).length := by
    unfold folOut
    rw [e, ← ha.nAct _ (gen_cs a)]
    exact fol_need first _ _ (gen a) (by omega) (by omega)
  refine ⟨g, e, hn, ?_⟩
  have hl := ha.long
  have hi : insC (ats (folOut first a b)) = insC (ats b.ops) := by
    unfold folOut; rw [e, insC_fol, hb.nIns]
  have := hb.ins
  have hbig : (toR a).1 ≤ 20000 := by rw [ha.to]; exact ha.big
  rw [fold_long (folOut first a b) _ g (by omega) (by omega)]
  have := act_len (ats (folOut first a b)) (act (gen a) (ats a.ops)) hn
  omega
theorem folR_ok {first : Bool} {a b : Change} (h : (folR first a b).2 = 0) : Rt a ∧ Rt b ∧ a.from_ = b.from_ ∧ folR first a b = (⟨(toR a).1, normL (folOut first a b)⟩, 0) ∧
    (folOut first a b).foldl lStep (toR a).1 ≤ 20000 ∧ (normL (folOut first a b)).length ≤ 2000 := by
  unfold folR at h ⊢
  split at h
  · next h1 => exact absurd h h1
  · next h1 =>
    rw [if_neg h1]
    split at h
    · next h2 => exact absurd h h2
    · next h2 =>
      rw [if_neg h2]
      split at h
      · exact absurd h (by decide)
      · next h3 =>
        rw [if_neg h3]
        split at h
        · exact absurd h (by decide)
        · next h4 =>
          rw [if_neg h4]
          split at h
          · exact absurd h (by decide)
          · next h5 =>
            rw [if_neg h5]
            exact ⟨toR_rt (by simpa using h1), toR_rt (by simpa using h2), by simpa using h3, rfl, by omega, by omega⟩
theorem folR_of {first : Bool} {a b : Change} (ha : Rt a) (hb : Rt b) (hf : a.from_ = b.from_) (h1 : (folOut first a b).foldl lStep (toR a).1 ≤ 20000) (h2 : (normL (folOut first a b)).length ≤ 2000) :
    folR first a b = (⟨(toR a).1, normL (folOut first a b)⟩, 0) := by
  unfold folR
  rw [if_neg (by simp [toR_iff.2 ha]), if_neg (by simp [toR_iff.2 hb]), if_neg (by simp [hf]), if_neg (by omega), if_neg (by omega)]
/-- What follows may be, in its normal form; it makes of what a makes the cells that both make. -/
theorem fol_fits {first : Bool} {a b : Change} (h : (folR first a b).2 = 0) :
    Rt (folR first a b).1 ∧ (folR first a b).1.from_ = (toR a).1 ∧ normL (folR first a b).1.ops = (folR first a b).1.ops ∧
      act (act (gen a) (ats a.ops)) (ats (folR first a b).1.ops) = act (act (gen a) (ats (normL a.ops))) (folA first (ats (normL a.ops)) (ats (normL b.ops))) := by
  obtain ⟨ha, hb, hf, e, h1, h2⟩ := folR_ok h
  have S : FolS first a b := fol_spec ha hb hf
  have hl := ha.long
  have h0 : 0 ≤ (toR a).1 := by omega
  have hbig : (toR a).1 ≤ 20000 := by rw [ha.to]; exact ha.big
  have hsm : need (ats (folOut first a b)) ≤ 4611686018427387904 := by have := S.need_; omega
  have hcs : CS (act (gen a) (ats a.ops)) := act_cs _ _ (as_ats ha.gd) (gen_cs a)
  have hact := act_normL S.gd hsm _ hcs
  rw [e]
  refine ⟨?_, rfl, normL_idem S.gd hsm, ?_⟩
  · refine rt_of h0 hbig h2 (normL_law S.gd hsm).1 (by have := need_normL S.gd hsm; have := S.need_; omega) ?_
    have e1 := act_len (ats (normL (folOut first a b))) (genFrom 0 (toR a).1.toNat) (by simp [genFrom]; have := need_normL S.gd hsm; have := S.need_; omega)
    have e2 := act_len (ats (normL (folOut first a b))) (act (gen a) (ats a.ops)) (by have := need_normL S.gd hsm; have := S.need_; omega)
    have e3 : (genFrom 0 (toR a).1.toNat).length = (toR a).1.toNat := by simp [genFrom]
    rw [hact] at e2
    have := S.long
    omega
  · dsimp only
    rw [hact, S.at_, ha.nAct _ (gen_cs a)]
theorem attrsEq_refl (l : List Attr) : attrsEq l l = true := by simp [attrsEq]
end Go.Proofs.YtaemajcpgmaapaaDoor
