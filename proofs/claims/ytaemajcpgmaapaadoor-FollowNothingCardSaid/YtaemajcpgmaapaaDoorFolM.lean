/- Three laws of follow.Follow: both ways of one length; nothing; all taken away. Plain Lean. -/
import Derived.Test.YtaemajcpgmaapaaDoorFolL
namespace Go.Proofs.YtaemajcpgmaapaaDoor
open Go.RowKit
open Go.Lib

/-- Both ways come to one length. -/
theorem fol_long {first : Bool} {a b : Change} (h : (folR first a b).2 = 0) (k : (folR (!first) b a).2 = 0) :
    (toR (folR first a b).1).2 = 0 ∧ (toR (folR (!first) b a).1).2 = 0 ∧ (toR (folR first a b).1).1 = (toR (folR (!first) b a).1).1 := by
  obtain ⟨r1, f1, _, e1⟩ := fol_fits h
  obtain ⟨r2, f2, _, e2⟩ := fol_fits k
  obtain ⟨ha, hb, hf, _⟩ := folR_ok h
  refine ⟨toR_iff.2 r1, toR_iff.2 r2, ?_⟩
  have g : gen a = gen b := by unfold gen; rw [hf]
  have hm := fol_meets first (ats (normL a.ops)) (ats (normL b.ops)) (gen a) (as_ats ha.nG) (as_ats hb.nG) (gen_cs a) (by have := ha.nNeed; have := ha.fit; omega) (by have := hb.nNeed; have := hb.fit; rw [g]; omega)
  rw [g] at hm e1
  rw [← hm, ← e1] at e2
  have l1 := act_len (ats (folR first a b).1.ops) (act (gen b) (ats a.ops)) (by have := r1.fits; have := ha.long; rw [g] at this; rw [f1] at *; omega)
  have l2 := act_len (ats (folR (!first) b a).1.ops) (act (gen b) (ats b.ops)) (by have := r2.fits; have := hb.long; rw [f2] at *; omega)
  rw [e2] at l2
  have t1 : (toR (folR first a b).1).1 = (folR first a b).1.from_ + insC (ats (folR first a b).1.ops) - delC (ats (folR first a b).1.ops) := by rw [r1.to]
  have t2 : (toR (folR (!first) b a).1).1 = (folR (!first) b a).1.from_ + insC (ats (folR (!first) b a).1.ops) - delC (ats (folR (!first) b a).1.ops) := by rw [r2.to]
  have h1 := ha.long
  have h2 := hb.long
  rw [g] at h1
  omega

/-- What follows nothing. -/
theorem folA_nil (first : Bool) : ∀ y : List At, folA first [] y = y
  | [] => by simp only [folA]
  | .ins c a :: y => by rw [folA, folA_nil first y]
  | .del :: y => by rw [folA, folA_nil first y]
  | .keep u :: y => by rw [folA, folA_nil first y]
theorem folA_nilR (first : Bool) : ∀ x : List At, ∃ k, folA first x [] = List.replicate k (.keep [])
  | [] => ⟨0, by simp only [folA]; rfl⟩
  | .ins c a :: x => by
    obtain ⟨k, e⟩ := folA_nilR first x
    exact ⟨k + 1, by rw [folA, e, List.replicate_succ]⟩
  | .del :: x => by
    obtain ⟨k, e⟩ := folA_nilR first x
    exact ⟨k, by rw [folA, e]⟩
  | .keep u :: x => by
    obtain ⟨k, e⟩ := folA_nilR first x
    exact ⟨k + 1, by rw [folA, e, List.replicate_succ]⟩
theorem rt_none {n : Int} (h0 : 0 ≤ n) (h1 : n ≤ 20000) : Rt ⟨n, []⟩ :=
  ⟨h0, h1, by simp, fun _ h => (by cases h), by simpa [ats, need] using h0, by simpa [ats, insC, delC] using h1⟩
theorem normL_nil : normL [] = [] := rfl
theorem folR_none {first : Bool} {a : Change} (h : Rt a) : folR first ⟨a.from_, []⟩ a = (⟨a.from_, normL a.ops⟩, 0) := by
  have hn := rt_none h.lo h.hi
  have S : FolS first ⟨a.from_, []⟩ a := fol_spec hn h rfl
  have e0 := S.at_
  rw [show normL (⟨a.from_, []⟩ : Change).ops = [] from rfl, ats_nil, folA_nil] at e0
  have t0 : (toR ⟨a.from_, []⟩).1 = a.from_ := by rw [hn.to]; simp [ats, insC, delC]
  have hsm : need (ats (folOut first ⟨a.from_, []⟩ a)) ≤ 4611686018427387904 := by rw [e0]; have := h.nNeed; have := h.small; omega
  have hsm2 : need (ats (normL a.ops)) ≤ 4611686018427387904 := by have := h.nNeed; have := h.small; omega
  have e1 : normL (folOut first ⟨a.from_, []⟩ a) = normL a.ops := by
    rw [(normL_law S.gd hsm).2.2.2, e0, ← (normL_law h.nG hsm2).2.2.2, normL_idem h.gd h.small']
  have hl := S.long
  rw [e0, h.nAct] at hl
  · have h3 := h.long
    have h4 := h.big
    have h5 : (toR a).1 = a.from_ + insC (ats a.ops) - delC (ats a.ops) := by rw [h.to]
    have e2 : act (gen ⟨a.from_, []⟩) (ats (⟨a.from_, []⟩ : Change).ops) = gen a := by
      show act (gen a) [] = gen a
      simp only [act]
    rw [e2, h3] at hl
    rw [folR_of hn h rfl (by omega) (by rw [e1]; exact h.nLen), e1, t0]
  · exact act_cs _ _ .nil (gen_cs _)
theorem folR_noneR {first : Bool} {a : Change} (h : Rt a) : folR first a ⟨a.from_, []⟩ = (⟨(toR a).1, []⟩, 0) := by
  have hn := rt_none h.lo h.hi
  have S : FolS first a ⟨a.from_, []⟩ := fol_spec h hn rfl
  obtain ⟨k, e0⟩ := folA_nilR first (ats (normL a.ops))
  have e := S.at_
  rw [show normL (⟨a.from_, []⟩ : Change).ops = [] from rfl, ats_nil, e0] at e
  have hcs : CS (act (gen a) (ats a.ops)) := act_cs _ _ (as_ats h.gd) (gen_cs a)
  have hsm : need (ats (folOut first a ⟨a.from_, []⟩)) ≤ 4611686018427387904 := by
    have := S.need_
    have := h.long
    have h4 := h.big
    have h5 : (toR a).1 = a.from_ + insC (ats a.ops) - delC (ats a.ops) := by rw [h.to]
    omega
  have e1 : normL (folOut first a ⟨a.from_, []⟩) = [] := by
    rw [(normL_law S.gd hsm).2.2.2, e, cn_pads, trimA_keeps]
    rfl
  have hl := S.long
  rw [e, act_keeps _ _ hcs, h.long] at hl
  have h4 := h.big
  have h5 : (toR a).1 = a.from_ + insC (ats a.ops) - delC (ats a.ops) := by rw [h.to]
  rw [folR_of h hn rfl (by omega) (by rw [e1]; simp), e1]

/-- Inserts alone. -/
def insOnly : List At → List At
  | [] => []
  | .ins c a :: r => .ins c a :: insOnly r
  | .del :: r => insOnly r
  | .keep _ :: r => insOnly r
theorem insOnly_append : ∀ x y, insOnly (x ++ y) = insOnly x ++ insOnly y
  | [], y => rfl
  | .ins c a :: x, y => by simp [insOnly, insOnly_append x y]
  | .del :: x, y => by simp [insOnly, insOnly_append x y]
  | .keep _ :: x, y => by simp [insOnly, insOnly_append x y]
theorem folA_gone (first : Bool) : ∀ (y : List At) (n : Nat), need y ≤ n → folA first (List.replicate n .del) y = insOnly y
  | [], 0, _ => by simp only [List.replicate_zero, folA, insOnly]
  | [], n + 1, h => by
    have := folA_gone first [] n (by simp [need])
    rw [List.replicate_succ, folA, this]
  | .ins c a :: y, 0, h => by
    have := folA_gone first y 0 h
    rw [List.replicate_zero, folA, insOnly]
    rw [List.replicate_zero] at this
    rw [this]
  | .ins c a :: y, n + 1, h => by
    have := folA_gone first y (n + 1) h
    rw [List.replicate_succ] at this ⊢
    rw [folA, insOnly, this]
  | .del :: y, 0, h => by simp [need] at h
  | .del :: y, n + 1, h => by
    have := folA_gone first y n (by simpa [need] using h)
    rw [List.replicate_succ, folA, insOnly, this]
  | .keep u :: y, 0, h => by simp [need] at h
  | .keep u :: y, n + 1, h => by
    have := folA_gone first y n (by simpa [need] using h)
    rw [List.replicate_succ, folA, insOnly, this]
/-- The text of the inserts. -/
def txtA : List At → List UInt8
  | [] => []
  | .ins c _ :: r => c ++ txtA r
  | .del :: r => txtA r
  | .keep _ :: r => txtA r
theorem txtA_append : ∀ x y, txtA (x ++ y) = txtA x ++ txtA y
  | [], y => rfl
  | .ins c a :: x, y => by simp [txtA, txtA_append x y]
  | .del :: x, y => by simp [txtA, txtA_append x y]
  | .keep _ :: x, y => by simp [txtA, txtA_append x y]
theorem txtA_dels : ∀ n, txtA (List.replicate n .del) = []
  | 0 => rfl
  | n + 1 => by rw [List.replicate_succ]; exact txtA_dels n
theorem txtA_keeps (u : List Attr) : ∀ n, txtA (List.replicate n (.keep u)) = []
  | 0 => rfl
  | n + 1 => by rw [List.replicate_succ]; exact txtA_keeps u n
theorem txtA_map (a : List Attr) : ∀ cs : List (List UInt8), txtA (cs.map fun c => .ins c a) = cs.flatten
  | [] => rfl
  | c :: cs => by simp [txtA, txtA_map a cs]
theorem txtA_insOnly : ∀ x, txtA (insOnly x) = txtA x
  | [] => rfl
  | .ins c a :: x => by simp [txtA, insOnly, txtA_insOnly x]
  | .del :: x => by simp [txtA, insOnly, txtA_insOnly x]
  | .keep _ :: x => by simp [txtA, insOnly, txtA_insOnly x]
theorem txtA_cn : ∀ x g, txtA (cn x g) = txtA x
  | [], g => by rw [cn, txtA_dels]; rfl
  | .ins c a :: x, g => by simp [cn, txtA, txtA_cn x g]
  | .del :: x, g => by simp [cn, txtA, txtA_cn x (g + 1)]
  | .keep _ :: x, g => by simp [cn, txtA, txtA_append, txtA_dels, txtA_cn x 0]
theorem txtA_trimA : ∀ x, txtA (trimA x) = txtA x
  | [] => rfl
  | a :: x => by
    have ih := txtA_trimA x
    unfold trimA
    split
    · next h => rw [h.2] at ih; rw [h.1]; simpa [txtA] using ih
    · cases a <;> simp [txtA, ih]
/-- The operations' texts, one behind another. -/
def txtO (l : List Op) : ByteArray := l.foldl (fun s o => s ++ o.text) ⟨#[]⟩
theorem txtO_go : ∀ (l : List Op) (s : ByteArray), (l.foldl (fun s o => s ++ o.text) s).data.toList = s.data.toList ++ (l.map fun o => o.text.data.toList).flatten
  | [], s => by simp
  | o :: l, s => by rw [List.foldl_cons, txtO_go l (s ++ o.text), data_append]; simp
theorem txtO_ats {l : List Op} (h : Gds l) : (l.map fun o => o.text.data.toList).flatten = txtA (ats l) := by
  induction l with
  | nil => rfl
  | cons o l ih =>
    rw [ats_cons, txtA_append, List.map_cons, List.flatten_cons, ih h.tail]
    congr 1
    rcases h o (.head _) with ⟨k, _⟩ | ⟨k, _, t, _⟩ | ⟨k, _, t, _⟩
    · rw [opAt2 k, txtA_map, chs_flatten]
    · rw [opAt3 k, txtA_dels, t]
    · rw [opAt1 k, txtA_keeps, t]
theorem txtO_eq {l m : List Op} (hl : Gds l) (hm : Gds m) (h : txtA (ats l) = txtA (ats m)) : txtO l = txtO m := by
  apply toList_inj
  rw [ByteArray.toList_eq, ByteArray.toList_eq]
  unfold txtO
  rw [txtO_go, txtO_go, txtO_ats hl, txtO_ats hm, h]
/-- The changeset that takes all away. -/
def allGone (n : Int) : Change := ⟨n, [⟨3, n, ⟨#[]⟩, []⟩]⟩
theorem rt_gone {n : Int} (h0 : 0 < n) (h1 : n ≤ 20000) : Rt (allGone n) ∧ ats (allGone n).ops = List.replicate n.toNat .del ∧ (toR (allGone n)).1 = 0 := by
  have hg : Gd ⟨3, n, ⟨#[]⟩, []⟩ := .inr (.inl ⟨rfl, h0, rfl, rfl⟩)
  have e : ats (allGone n).ops = List.replicate n.toNat .del := by unfold allGone; rw [ats_one, opAt3 rfl]
  have r : Rt (allGone n) := by
    refine ⟨by show 0 ≤ n; omega, h1, by simp [allGone], fun o ho => ?_, ?_, ?_⟩
    · simp [allGone] at ho
      subst ho
      exact gd_opOk hg (by rw [opAt3 rfl, insC_rep .del trivial]; omega)
    · rw [e, need_dels]; show (n.toNat : Int) ≤ n; omega
    · rw [e, insC_rep .del trivial, delC_dels]; show n + 0 - (n.toNat : Int) ≤ 20000; omega
  refine ⟨r, e, ?_⟩
  rw [r.to, e, insC_rep .del trivial, delC_dels]
  show n + 0 - (n.toNat : Int) = 0
  omega
theorem insOnly_noneed : ∀ x, need (insOnly x) = 0
  | [] => rfl
  | .ins _ _ :: x => insOnly_noneed x
  | .del :: x => insOnly_noneed x
  | .keep _ :: x => insOnly_noneed x
/-- A row of inserts alone is as it is. -/
theorem cn_insOnly : ∀ x, cn (insOnly x) 0 = insOnly x
  | [] => rfl
  | .ins c a :: x => by simp [insOnly, cn, cn_insOnly x]
  | .del :: x => by simp [insOnly, cn_insOnly x]
  | .keep _ :: x => by simp [insOnly, cn_insOnly x]
theorem trimA_insOnly : ∀ x, trimA (insOnly x) = insOnly x
  | [] => rfl
  | .ins c a :: x => by simp [insOnly, trimA, trimA_insOnly x]
  | .del :: x => by simp [insOnly, trimA_insOnly x]
  | .keep _ :: x => by simp [insOnly, trimA_insOnly x]
theorem ats_filter {l : List Op} (h : Gds l) : ats (l.filter fun o => o.kind == 2) = insOnly (ats l) := by
  have hm : ∀ (a : List Attr) (cs : List (List UInt8)), insOnly (cs.map fun c => .ins c a) = cs.map fun c => .ins c a := fun a cs => by
    induction cs with
    | nil => rfl
    | cons c cs ih => simp [insOnly, ih]
  have hr : ∀ (s : At), NoI s → ∀ n, insOnly (List.replicate n s) = [] := fun s hs n => by
    induction n with
    | zero => rfl
    | succ n ih =>
      rw [List.replicate_succ]
      cases s with
      | ins => exact hs.elim
      | del => exact ih
      | keep => exact ih
  induction l with
  | nil => rfl
  | cons o l ih =>
    rw [ats_cons, insOnly_append, ← ih h.tail]
    rcases h o (.head _) with ⟨k, _⟩ | ⟨k, _⟩ | ⟨k, _⟩
    · rw [List.filter_cons_of_pos (by simp [k]), ats_cons, opAt2 k, hm]
    · rw [List.filter_cons_of_neg (by simp [k]), opAt3 k, hr .del trivial]; rfl
    · rw [List.filter_cons_of_neg (by simp [k]), opAt1 k, hr (.keep o.attrs) trivial]; rfl
theorem fol_gone {first : Bool} {b : Change} (h : Rt b) (h0 : b.from_ ≠ 0) :
    (folR first (allGone b.from_) b).2 = 0 ∧ (folR first (allGone b.from_) b).1.from_ = 0 ∧ (∀ o ∈ (folR first (allGone b.from_) b).1.ops, o.kind = 2) ∧ txtO (folR first (allGone b.from_) b).1.ops = txtO b.ops := by
  obtain ⟨r, e, t0⟩ := rt_gone (n := b.from_) (by have := h.lo; omega) h.hi
  have S : FolS first (allGone b.from_) b := fol_spec r h rfl
  have e1 : ats (folOut first (allGone b.from_) b) = insOnly (ats (normL b.ops)) := by
    have hc := cn_dels [] b.from_.toNat 0
    rw [List.append_nil, Nat.zero_add] at hc
    have ht : trimA (List.replicate b.from_.toNat At.del) = List.replicate b.from_.toNat .del := by
      generalize b.from_.toNat = k
      induction k with
      | zero => rfl
      | succ k ih => rw [List.replicate_succ, trimA, ih, if_neg (by simp)]
    rw [S.at_, r.nAts, e, hc, cn, ht, folA_gone]
    have := h.nNeed
    have := h.fits
    omega
  have hsm : need (ats (folOut first (allGone b.from_) b)) ≤ 4611686018427387904 := by rw [e1, insOnly_noneed]; omega
  have hN := normL_law S.gd hsm
  rw [e1, cn_insOnly, trimA_insOnly] at hN
  have hfg : Gds ((normL b.ops).filter fun o => o.kind == 2) := fun o ho => h.nG o (List.mem_filter.1 ho).1
  have hfn : need (ats ((normL b.ops).filter fun o => o.kind == 2)) ≤ 4611686018427387904 := by rw [ats_filter h.nG, insOnly_noneed]; omega
  have hF := normL_law hfg hfn
  rw [ats_filter h.nG, cn_insOnly, trimA_insOnly] at hF
  have hlen : (normL (folOut first (allGone b.from_) b)).length ≤ 2000 := by
    rw [hN.2.2.2, ← hF.2.2.2]
    refine Nat.le_trans (normL_len hfg hfn) (Nat.le_trans (List.length_filter_le _ _) h.nLen)
  have hlong : (folOut first (allGone b.from_) b).foldl lStep (toR (allGone b.from_)).1 ≤ 20000 := by
    rw [S.long, e, e1]
    have l1 := act_len (List.replicate b.from_.toNat .del) (gen (allGone b.from_)) (by rw [← e]; exact r.fit)
    have l0 := gen_len (allGone b.from_)
    rw [insC_rep .del trivial, delC_dels] at l1
    have l2 := act_len (insOnly (ats (normL b.ops))) (act (gen (allGone b.from_)) (List.replicate b.from_.toNat .del)) (by rw [insOnly_noneed]; omega)
    have hi : insC (insOnly (ats (normL b.ops))) = insC (ats (normL b.ops)) := by
      generalize ats (normL b.ops) = x
      induction x with
      | nil => rfl
      | cons s x ih => cases s <;> simp [insOnly, insC, ih]
    rw [hi, h.nIns] at l2
    have := h.ins
    have l0' : (gen (allGone b.from_)).length = b.from_.toNat := l0
    omega
  rw [folR_of r h rfl hlong hlen]
  refine ⟨rfl, t0, fun o ho => ?_, ?_⟩
  · have hmem : opAt o ≠ [] := (hN.1 o ho).ne
    have hsub : ∀ s ∈ opAt o, s ∈ insOnly (ats (normL b.ops)) := fun s hs => by rw [← hN.2.2.1]; exact List.mem_flatMap.2 ⟨o, ho, hs⟩
    have hio : ∀ (x : List At) (s : At), s ∈ insOnly x → ¬ NoI s := fun x s => by
      induction x with
      | nil => intro h; cases h
      | cons a x ih =>
        cases a with
        | ins c a =>
          intro h
          cases h with
          | head => exact fun h => h
          | tail _ h => exact ih h
        | del => exact ih
        | keep => exact ih
    rcases hN.1 o ho with ⟨k, _⟩ | ⟨k, n, _⟩ | ⟨k, n, _⟩
    · exact k
    · exact absurd trivial (hio _ .del (hsub _ (by rw [opAt3 k]; simp; omega)))
    · exact absurd trivial (hio _ (.keep o.attrs) (hsub _ (by rw [opAt1 k]; simp; omega)))
  · refine txtO_eq hN.1 h.gd ?_
    dsimp only
    rw [hN.2.2.1, txtA_insOnly, h.nAts, txtA_trimA, txtA_cn]
end Go.Proofs.YtaemajcpgmaapaaDoor
