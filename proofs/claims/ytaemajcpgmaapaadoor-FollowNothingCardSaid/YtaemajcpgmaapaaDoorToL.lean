/- change.To by steps: what may be, and how long what comes of it is. Plain Lean. -/
import Derived.Test.YtaemajcpgmaapaaDoorFolQ
namespace Go.Proofs.YtaemajcpgmaapaaDoor
open Go.RowKit
open Go.Lib

def insC : List At → Nat
  | [] => 0
  | .ins _ _ :: r => insC r + 1
  | .del :: r => insC r
  | .keep _ :: r => insC r
def delC : List At → Nat
  | [] => 0
  | .ins _ _ :: r => delC r
  | .del :: r => delC r + 1
  | .keep _ :: r => delC r
theorem insC_append : ∀ x y, insC (x ++ y) = insC x + insC y
  | [], y => by simp [insC]
  | .ins _ _ :: x, y => by simp [insC, insC_append x y]; omega
  | .del :: x, y => by simp [insC, insC_append x y]
  | .keep _ :: x, y => by simp [insC, insC_append x y]
theorem delC_append : ∀ x y, delC (x ++ y) = delC x + delC y
  | [], y => by simp [delC]
  | .ins _ _ :: x, y => by simp [delC, delC_append x y]
  | .del :: x, y => by simp [delC, delC_append x y]; omega
  | .keep _ :: x, y => by simp [delC, delC_append x y]
theorem delC_le : ∀ x, delC x ≤ need x
  | [] => Nat.le_refl _
  | .ins _ _ :: x => delC_le x
  | .del :: x => Nat.succ_le_succ (delC_le x)
  | .keep _ :: x => Nat.le_succ_of_le (delC_le x)
theorem act_len : ∀ (x : List At) (L : List Cell), need x ≤ L.length → (act L x).length + delC x = L.length + insC x
  | [], L, _ => by simp [act, delC, insC]
  | .ins _ _ :: x, L, h => by have := act_len x L h; simp only [act, delC, insC, List.length_cons]; omega
  | .del :: x, L, h => by
    obtain ⟨z, M, rfl, h1⟩ := need_pos h
    have := act_len x M h1
    simp only [act, delC, insC, List.length_cons]; omega
  | .keep _ :: x, L, h => by
    obtain ⟨z, M, rfl, h1⟩ := need_pos h
    have := act_len x M h1
    simp only [act, delC, insC, List.length_cons]; omega
theorem insC_map (a : List Attr) : ∀ cs : List (List UInt8), insC (cs.map fun c => .ins c a) = cs.length
  | [] => rfl
  | c :: cs => by simp [insC, insC_map a cs]
theorem delC_map (a : List Attr) : ∀ cs : List (List UInt8), delC (cs.map fun c => .ins c a) = 0
  | [] => rfl
  | c :: cs => by simp [delC, delC_map a cs]
theorem insC_rep (s : At) (h : NoI s) : ∀ n, insC (List.replicate n s) = 0
  | 0 => rfl
  | n + 1 => by
    rw [List.replicate_succ]
    cases s with
    | ins => exact h.elim
    | del => exact insC_rep _ h n
    | keep => exact insC_rep _ h n
theorem delC_dels : ∀ n, delC (List.replicate n .del) = n
  | 0 => rfl
  | n + 1 => by rw [List.replicate_succ]; simp [delC, delC_dels n]
theorem delC_keeps (a : List Attr) : ∀ n, delC (List.replicate n (.keep a)) = 0
  | 0 => rfl
  | n + 1 => by rw [List.replicate_succ]; simp [delC, delC_keeps a n]

theorem isEmpty_toList {s : ByteArray} : s.toList.isEmpty = true ↔ s = ⟨#[]⟩ := ⟨isEmp, by rintro rfl; rw [ByteArray.toList_eq]; rfl⟩
theorem opOk_gd {o : Op} (h : opOk o) : Gd o := by
  obtain ⟨hs, h2, h1⟩ := h
  unfold shapedB at hs
  by_cases k2 : o.kind = 2
  · rw [if_pos k2] at hs
    simp only [Bool.and_eq_true, beq_iff_eq, Bool.not_eq_true'] at hs
    obtain ⟨hc, hr⟩ := h2 k2
    have hv : validD o.text.data.toList = true := by
      unfold cntErr at hc
      split at hc
      · next h => exact h.1
      · cases hc
    refine .inl ⟨k2, hs.1, hv, fun e => ?_, hr⟩
    have := hs.2
    rw [ByteArray.toList_eq, e] at this
    cases this
  · rw [if_neg k2] at hs
    by_cases k3 : o.kind = 3
    · rw [if_pos k3] at hs
      simp only [Bool.and_eq_true, decide_eq_true_eq] at hs
      exact .inr (.inl ⟨k3, hs.1, isEmp hs.2.1, List.eq_nil_of_length_eq_zero hs.2.2⟩)
    · rw [if_neg k3] at hs
      simp only [Bool.and_eq_true, decide_eq_true_eq, beq_iff_eq] at hs
      exact .inr (.inr ⟨hs.1, hs.2.1, isEmp hs.2.2, h1 k2⟩)
theorem gd_opOk {o : Op} (h : Gd o) (hc : insC (opAt o) ≤ 20000) : opOk o := by
  rcases h with ⟨k, n, v, t, r⟩ | ⟨k, n, t, a⟩ | ⟨k, n, t, a⟩
  · rw [opAt2 k, insC_map, ← count_chs] at hc
    refine ⟨?_, fun _ => ⟨?_, r⟩, fun h => absurd k h⟩
    · unfold shapedB
      rw [if_pos k, n]
      simp only [beq_self_eq_true, Bool.true_and, Bool.not_eq_true']
      cases e : o.text.toList.isEmpty with
      | false => rfl
      | true => rw [isEmp e] at t; exact absurd rfl t
    · unfold cntErr; rw [if_pos ⟨v, hc⟩]
  · refine ⟨?_, fun h => by omega, fun _ => by rw [a]; exact ch_nil⟩
    unfold shapedB
    rw [if_neg (by omega), if_pos k, t, a]
    simp [n, ByteArray.toList_eq]
  · refine ⟨?_, fun h => by omega, fun _ => a⟩
    unfold shapedB
    rw [if_neg (by omega), if_neg (by omega), t, k]
    simp [n, ByteArray.toList_eq]
/-- What one operation takes and leaves. -/
theorem oneR_law {o : Op} {left : Int} (h : opOk o) : (oneR o left).2.2 = 0 ↔ (need (opAt o) : Int) ≤ left ∨ o.kind = 2 := by
  have hg := opOk_gd h
  obtain ⟨hs, h2, h1⟩ := h
  unfold oneR
  rw [if_neg (by rw [hs]; simp)]
  by_cases k2 : o.kind = 2
  · rw [if_pos k2, if_pos (h2 k2).1]
    simp [k2, (h2 k2).2]
  · rw [if_neg k2, if_pos (h1 k2), hg.need]
    by_cases hl : left < o.n
    · rw [if_pos hl]; simp [k2]; omega
    · rw [if_neg hl]
      split <;> simp [k2] <;> omega
theorem oneR_val {o : Op} {left : Int} (h : opOk o) (h0 : (oneR o left).2.2 = 0) : (oneR o left).1 = need (opAt o) ∧ (oneR o left).2.1 = (insC (opAt o) : Int) - delC (opAt o) := by
  have hg := opOk_gd h
  have hn := hg.need
  have hor := (oneR_law h).1 h0
  obtain ⟨hs, h2, h1⟩ := h
  unfold oneR
  rw [if_neg (by rw [hs]; simp)]
  rcases hg with ⟨k2, n, v, t, r⟩ | ⟨k2, n, t, a⟩ | ⟨k2, n, t, a⟩
  · rw [if_pos k2, if_pos (h2 k2).1]
    have hc := (h2 k2).1
    have hN : cntN o.text = (runeCount o.text : Int) := by
      unfold cntErr at hc
      unfold cntN
      split at hc
      · next h => rw [if_pos h]
      · cases hc
    rw [hn, n, opAt2 k2, insC_map, delC_map, ← count_chs]
    exact ⟨rfl, by rw [hN]; simp⟩
  · rw [if_neg (by omega), if_pos (h1 (by omega)), if_neg (by rcases hor with h | h <;> omega), if_pos k2, hn, opAt3 k2, insC_rep .del trivial, delC_dels]
    exact ⟨rfl, by dsimp only; omega⟩
  · rw [if_neg (by omega), if_pos (h1 (by omega)), if_neg (by rcases hor with h | h <;> omega), if_neg (by omega), hn, opAt1 k2, insC_rep (.keep o.attrs) trivial, delC_keeps]
    exact ⟨rfl, rfl⟩
theorem toGo_fwd : ∀ (l : List Op) (left n : Int), (∀ o ∈ l, opOk o) → (need (ats l) : Int) ≤ left → n + insC (ats l) - delC (ats l) ≤ 20000 → toGo l left n = (n + insC (ats l) - delC (ats l), 0)
  | [], left, n, _, _, hb => by
    simp only [ats_nil, insC, delC] at hb ⊢
    unfold toGo
    rw [if_neg (by omega)]
    simp
  | o :: l, left, n, ho, hl, hb => by
    have hoo := ho o (.head _)
    rw [ats_cons, need_append] at hl
    have h0 : (oneR o left).2.2 = 0 := (oneR_law hoo).2 (.inl (by omega))
    obtain ⟨v1, v2⟩ := oneR_val hoo h0
    rw [ats_cons, insC_append, delC_append] at hb ⊢
    unfold toGo
    rw [if_pos h0, v1, v2, toGo_fwd l _ _ (fun x hx => ho x (.tail _ hx)) (by omega) (by omega)]
    congr 1
    omega
theorem toGo_bwd : ∀ (l : List Op) (left n : Int), 0 ≤ left → (toGo l left n).2 = 0 → (need (ats l) : Int) ≤ left ∧ n + insC (ats l) - delC (ats l) ≤ 20000 ∧ (toGo l left n).1 = n + insC (ats l) - delC (ats l)
  | [], left, n, h0, h => by
    simp only [ats_nil, insC, delC, need]
    unfold toGo at h ⊢
    split at h
    · cases h
    · next hn => rw [if_neg hn]; exact ⟨by omega, by omega, by dsimp only; omega⟩
  | o :: l, left, n, h0, h => by
    have hok := toGo_ok (o :: l) left n h
    have hoo := hok o (.head _)
    unfold toGo at h ⊢
    split at h
    · next h1 =>
      rw [if_pos h1]
      obtain ⟨v1, v2⟩ := oneR_val hoo h1
      have hle : (need (opAt o) : Int) ≤ left := by
        rcases (oneR_law hoo).1 h1 with h | h
        · exact h
        · rw [opAt2 h, need_ins]; omega
      have ih := toGo_bwd l _ _ (by rw [v1]; omega) h
      rw [ats_cons, need_append, insC_append, delC_append]
      rw [v1, v2] at ih ⊢
      exact ⟨by omega, by omega, by rw [ih.2.2]; omega⟩
    · next h1 => exact absurd h h1

/-- Which changesets may be. -/
structure Rt (c : Change) : Prop where
  lo : 0 ≤ c.from_
  hi : c.from_ ≤ 20000
  len : c.ops.length ≤ 2000
  ok : ∀ o ∈ c.ops, opOk o
  fits : (need (ats c.ops) : Int) ≤ c.from_
  big : c.from_ + insC (ats c.ops) - delC (ats c.ops) ≤ 20000
theorem Rt.gd {c : Change} (h : Rt c) : Gds c.ops := fun o ho => opOk_gd (h.ok o ho)
theorem Rt.to {c : Change} (h : Rt c) : toR c = (c.from_ + insC (ats c.ops) - delC (ats c.ops), 0) := by
  unfold toR
  rw [if_neg (by have := h.lo; have := h.hi; omega), if_neg (by have := h.len; omega), toGo_fwd _ _ _ h.ok h.fits h.big]
theorem toR_rt {c : Change} (h : (toR c).2 = 0) : Rt c := by
  obtain ⟨h1, h2, h3, h4⟩ := toR_ok h
  have hb : (toGo c.ops c.from_ c.from_).2 = 0 := by
    unfold toR at h
    rw [if_neg (by omega), if_neg (by omega)] at h
    exact h
  obtain ⟨b1, b2, _⟩ := toGo_bwd _ _ _ h1 hb
  exact ⟨h1, h2, h3, h4, b1, b2⟩
theorem toR_iff {c : Change} : (toR c).2 = 0 ↔ Rt c := ⟨toR_rt, fun h => by rw [h.to]⟩
def gen (c : Change) : List Cell := genFrom 0 c.from_.toNat
theorem gen_len (c : Change) : (gen c).length = c.from_.toNat := by simp [gen, genFrom]
theorem gen_cs (c : Change) : CS (gen c) := genFrom_cs _ _
theorem Rt.fit {c : Change} (h : Rt c) : need (ats c.ops) ≤ (gen c).length := by rw [gen_len]; have := h.fits; have := h.lo; omega
/-- What comes of it: so many runes. -/
theorem Rt.long {c : Change} (h : Rt c) : ((act (gen c) (ats c.ops)).length : Int) = (toR c).1 := by
  have h1 := act_len (ats c.ops) (gen c) h.fit
  have h2 := gen_len c
  have h3 := h.lo
  rw [h.to]
  dsimp only
  omega
theorem Rt.nm {c : Change} (h : Rt c) : nmR c = (⟨c.from_, normL c.ops⟩, 0) := by
  unfold nmR
  rw [if_pos (toR_iff.2 h)]
theorem Rt.small {c : Change} (h : Rt c) : need (ats c.ops) ≤ 20000 := by have := h.fits; have := h.hi; omega
theorem insC_mem {l : List Op} {o : Op} (h : o ∈ l) : insC (opAt o) ≤ insC (ats l) := by
  obtain ⟨s, t, rfl⟩ := List.append_of_mem h
  rw [ats_append, insC_append, ats_cons, insC_append]
  omega
/-- Of operations that may be, of any length, a changeset that may be. -/
theorem rt_of {f : Int} {l : List Op} (h0 : 0 ≤ f) (h1 : f ≤ 20000) (hl : l.length ≤ 2000) (hg : Gds l) (hn : (need (ats l) : Int) ≤ f) (hb : ((act (genFrom 0 f.toNat) (ats l)).length : Int) ≤ 20000) : Rt ⟨f, l⟩ := by
  have e := act_len (ats l) (genFrom 0 f.toNat) (by simp [genFrom]; omega)
  have e2 : (genFrom 0 f.toNat).length = f.toNat := by simp [genFrom]
  have e3 := delC_le (ats l)
  refine ⟨h0, h1, hl, fun o ho => gd_opOk (hg o ho) ?_, hn, ?_⟩
  · have : insC (opAt o) ≤ insC (ats l) := insC_mem ho
    omega
  · show f + insC (ats l) - delC (ats l) ≤ 20000
    omega
end Go.Proofs.YtaemajcpgmaapaaDoor
