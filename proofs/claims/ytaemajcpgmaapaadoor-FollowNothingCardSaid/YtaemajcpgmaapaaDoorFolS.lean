/- follow.Follow's rounds, in plain Lean: what the readers have left, what the writer holds. -/
import Derived.Test.YtaemajcpgmaapaaDoorFolM
namespace Go.Proofs.YtaemajcpgmaapaaDoor
open Go.RowKit
open Go.Lib

/-- Between two rounds: out is written, X and Y are left. -/
structure FRel (first : Bool) (F : List Op) (ra : Int) (K0 : Nat) (X Y : List Op) (s : List Op × Int) (long : Int) (k : Nat) : Prop where
  m : ms X + ms Y ≤ k
  gx : Gds X
  gy : Gds Y
  nx : need (ats X) ≤ 4611686018427387904
  ny : need (ats Y) ≤ 4611686018427387904
  ty : ∀ y ∈ Y, y.text.size ≤ 80000
  o : ∃ out, s = out.foldl nStep ([], 0) ∧ long = out.foldl lStep ra ∧ F = out ++ folGo first k X Y ∧ out.length + k ≤ K0 ∧ NB out.length s
section
variable {first : Bool} {F : List Op} {ra : Int} {K0 : Nat} {X Y : List Op} {s : List Op × Int} {long : Int} {k : Nat}
theorem FRel.bd (h : FRel first F ra K0 X Y s long k) : s.1.length ≤ 2 * K0 ∧ ∀ x ∈ s.1, x.text.size ≤ K0 * 80000 := by
  obtain ⟨out, _, _, _, h1, h2, h3⟩ := h.o
  exact ⟨by omega, fun x hx => Nat.le_trans (h3 x hx) (Nat.mul_le_mul_right _ (by omega))⟩
theorem FRel.pos (h : FRel first F ra K0 X Y s long k) (hne : ¬ (X.length = 0 ∧ Y.length = 0)) : ∃ j, k = j + 1 := by
  have := h.m
  cases X with
  | cons x X => rw [ms_cons] at this; exact ⟨k - 1, by omega⟩
  | nil =>
    cases Y with
    | cons y Y => rw [ms_cons] at this; exact ⟨k - 1, by omega⟩
    | nil => exact absurd ⟨rfl, rfl⟩ hne
theorem FRel.fin (h : FRel first F ra K0 [] [] s long k) : s = F.foldl nStep ([], 0) ∧ long = F.foldl lStep ra := by
  obtain ⟨out, h1, h2, h3, _⟩ := h.o
  have e : folGo first k [] [] = [] := by cases k <;> simp [folGo]
  rw [e, List.append_nil] at h3
  subst h3
  exact ⟨h1, h2⟩
/-- An insert of Y. -/
theorem FRel.ins {y : Op} (h : FRel first F ra K0 X (y :: Y) s long (k + 1)) (hi : y.kind = 2) (hf : (first || !insB X) = true) : FRel first F ra K0 X Y (putL s.1 y, s.2) (wrap64 (long + runeCount y.text)) k := by
  obtain ⟨out, h1, h2, h3, h4, h5⟩ := h.o
  have hm := h.m
  have hn := h.ny
  rw [ms_cons] at hm
  rw [ats_cons, need_append] at hn
  have e1 : nStep s y = (putL s.1 y, s.2) := by unfold nStep; rw [if_neg (by omega), if_pos hi]
  have e2 : lStep long y = wrap64 (long + runeCount y.text) := by unfold lStep; rw [if_pos hi]
  have e3 : folGo first (k + 1) X (y :: Y) = y :: folGo first k X Y := by
    rw [folGo, if_neg (by simp), if_pos (by rw [show insB (y :: Y) = true by simp [insB, hi]]; simpa using hf)]
    rfl
  refine ⟨by omega, h.gx, h.gy.tail, h.nx, by omega, fun z hz => h.ty z (.tail _ hz), out ++ [y], ?_, ?_, ?_, by simp; omega, ?_⟩
  · rw [List.foldl_append, ← h1]; exact e1.symm
  · rw [List.foldl_append, ← h2]; exact e2.symm
  · rw [h3, e3]; simp
  · have := h5.step (h.ty y (.head _))
    rw [e1] at this
    simpa using this
/-- An insert of X: so many runes are kept. -/
theorem FRel.kept {x : Op} (h : FRel first F ra K0 (x :: X) Y s long (k + 1)) (hi : x.kind = 2) (hf : (insB Y && (first || !insB (x :: X))) = false) :
    FRel first F ra K0 X Y (putL (flushL s).1 ⟨1, runeCount x.text, ⟨#[]⟩, []⟩, (flushL s).2) long k := by
  obtain ⟨out, h1, h2, h3, h4, h5⟩ := h.o
  have hm := h.m
  have hn := h.nx
  rw [ms_cons] at hm
  rw [ats_cons, need_append] at hn
  have e1 : nStep s ⟨1, runeCount x.text, ⟨#[]⟩, []⟩ = (putL (flushL s).1 ⟨1, runeCount x.text, ⟨#[]⟩, []⟩, (flushL s).2) := by unfold nStep; rw [if_pos rfl]
  have e2 : lStep long ⟨1, runeCount x.text, ⟨#[]⟩, []⟩ = long := by unfold lStep; rw [if_neg (show ¬ (1 : Int) = 2 by decide), if_neg (show ¬ (1 : Int) = 3 by decide)]
  have e3 : folGo first (k + 1) (x :: X) Y = ⟨1, runeCount x.text, ⟨#[]⟩, []⟩ :: folGo first k X Y := by
    rw [folGo, if_neg (by simp), if_neg (by simp [hf]), if_pos (by simp [insB, hi])]
    rfl
  refine ⟨by omega, h.gx.tail, h.gy, by omega, h.ny, h.ty, out ++ [⟨1, runeCount x.text, ⟨#[]⟩, []⟩], ?_, ?_, ?_, by simp; omega, ?_⟩
  · rw [List.foldl_append, ← h1]; exact e1.symm
  · rw [List.foldl_append, ← h2]; exact e2.symm
  · rw [h3, e3]; simp
  · have := h5.step (o := ⟨1, runeCount x.text, ⟨#[]⟩, []⟩) (by show (0 : Nat) ≤ _; omega)
    rw [e1] at this
    simpa using this
/-- What is left behind a run of both. -/
theorem FRel.run (h : FRel first F ra K0 X Y s long (k + 1)) (hne : ¬ (X.length = 0 ∧ Y.length = 0)) (hx : insB X = false) (hy : insB Y = false) :
    ms (takeO (min (leftN X) (leftN Y)) X).2 + ms (takeO (min (leftN X) (leftN Y)) Y).2 ≤ k ∧ Gds (takeO (min (leftN X) (leftN Y)) X).2 ∧ Gds (takeO (min (leftN X) (leftN Y)) Y).2 ∧
      need (ats (takeO (min (leftN X) (leftN Y)) X).2) ≤ 4611686018427387904 ∧ need (ats (takeO (min (leftN X) (leftN Y)) Y).2) ≤ 4611686018427387904 ∧ (∀ y ∈ (takeO (min (leftN X) (leftN Y)) Y).2, y.text.size ≤ 80000) ∧
      (takeO (min (leftN X) (leftN Y)) Y).1.text.size ≤ 80000 := by
  have hm := h.m
  have hn1 := h.nx
  have hn2 := h.ny
  have pos : ∀ {o : Op} {l : List Op}, Gds (o :: l) → insB (o :: l) = false → o.kind ≠ 2 ∧ 0 < o.n := fun {o l} hg hi => by
    have hk : o.kind ≠ 2 := by simpa [insB] using hi
    refine ⟨hk, ?_⟩
    rcases hg o (.head _) with ⟨k2, _⟩ | ⟨_, h, _⟩ | ⟨_, h, _⟩
    · exact absurd k2 hk
    · exact h
    · exact h
  have bnd : ∀ {o : Op} {l : List Op}, Gds (o :: l) → need (ats (o :: l)) ≤ 4611686018427387904 → o.n ≤ 4611686018427387904 := fun {o l} hg hn => by
    have := (hg o (.head _)).need
    rw [ats_cons, need_append] at hn
    omega
  have tsz : ∀ {n : Int} {o : Op} {l : List Op}, (∀ y ∈ o :: l, y.text.size ≤ 80000) → ∀ y ∈ (takeO n (o :: l)).2, y.text.size ≤ 80000 := fun {n o l} ht y hy => by
    unfold takeO at hy
    dsimp only at hy
    split at hy
    · exact ht y (.tail _ hy)
    · cases hy with
      | head => exact ht o (.head _)
      | tail _ hy => exact ht y (.tail _ hy)
  have e0 : ms ([] : List Op) = 0 := rfl
  cases X with
  | nil =>
    cases Y with
    | nil => exact absurd ⟨rfl, rfl⟩ hne
    | cons q Y =>
      obtain ⟨kq, pq⟩ := pos h.gy hy
      have hmin : min (leftN []) (leftN (q :: Y)) ≤ q.n ∧ 0 < min (leftN []) (leftN (q :: Y)) := by
        show min 20001 q.n ≤ q.n ∧ 0 < min 20001 q.n
        omega
      obtain ⟨t1, t2, t3⟩ := take_law h.gy kq hmin.2 hmin.1 (bnd h.gy hn2)
      have t4 := congrArg need t2
      rw [need_append] at t4
      rw [takeO_nil]
      exact ⟨by show ms [] + _ ≤ k; omega, h.gx, t1, hn1, by omega, tsz h.ty, h.ty q (.head _)⟩
  | cons p X =>
    obtain ⟨kp, pp⟩ := pos h.gx hx
    cases Y with
    | nil =>
      have hmin : min (leftN (p :: X)) (leftN []) ≤ p.n ∧ 0 < min (leftN (p :: X)) (leftN []) := by
        show min p.n 20001 ≤ p.n ∧ 0 < min p.n 20001
        omega
      obtain ⟨t1, t2, t3⟩ := take_law h.gx kp hmin.2 hmin.1 (bnd h.gx hn1)
      have t4 := congrArg need t2
      rw [need_append] at t4
      rw [takeO_nil]
      exact ⟨by show _ + ms [] ≤ k; omega, t1, h.gy, by omega, hn2, h.ty, by show (0 : Nat) ≤ _; omega⟩
    | cons q Y =>
      obtain ⟨kq, pq⟩ := pos h.gy hy
      have hmin : min (leftN (p :: X)) (leftN (q :: Y)) ≤ p.n ∧ min (leftN (p :: X)) (leftN (q :: Y)) ≤ q.n ∧ 0 < min (leftN (p :: X)) (leftN (q :: Y)) := by
        show min p.n q.n ≤ p.n ∧ min p.n q.n ≤ q.n ∧ 0 < min p.n q.n
        omega
      obtain ⟨s1, s2, s3⟩ := take_law h.gx kp hmin.2.2 hmin.1 (bnd h.gx hn1)
      obtain ⟨t1, t2, t3⟩ := take_law h.gy kq hmin.2.2 hmin.2.1 (bnd h.gy hn2)
      have s4 := congrArg need s2
      have t4 := congrArg need t2
      rw [need_append] at s4 t4
      exact ⟨by omega, s1, t1, by omega, by omega, tsz h.ty, h.ty q (.head _)⟩
theorem folGo_run (hne : ¬ (X.length = 0 ∧ Y.length = 0)) (hx : insB X = false) (hy : insB Y = false) {p q : Op} {X' Y' : List Op} (e1 : takeO (min (leftN X) (leftN Y)) X = (p, X')) (e2 : takeO (min (leftN X) (leftN Y)) Y = (q, Y')) :
    folGo first (k + 1) X Y = metL first p q ++ folGo first k X' Y' := by
  rw [folGo, if_neg hne, if_neg (by simp [hy]), if_neg (by simp [hx]), e1, e2]
  unfold metL
  dsimp only
  split
  · rfl
  · split <;> rfl
/-- A run of both: what it writes. -/
theorem FRel.met (h : FRel first F ra K0 X Y s long (k + 1)) (hne : ¬ (X.length = 0 ∧ Y.length = 0)) (hx : insB X = false) (hy : insB Y = false) {p q : Op} {X' Y' : List Op} (e1 : takeO (min (leftN X) (leftN Y)) X = (p, X')) (e2 : takeO (min (leftN X) (leftN Y)) Y = (q, Y'))
    (hk : q.kind = 1 ∨ q.kind = 3) :
    (p.kind = 3 → FRel first F ra K0 X' Y' s long k) ∧ (p.kind ≠ 3 → q.kind = 3 → FRel first F ra K0 X' Y' (s.1, wrap64 (s.2 + q.n)) (wrap64 (long - q.n)) k) ∧
      (p.kind ≠ 3 → q.kind ≠ 3 → FRel first F ra K0 X' Y' (putL (flushL s).1 ⟨q.kind, q.n, q.text, flL p.attrs q.attrs first⟩, (flushL s).2) long k) := by
  obtain ⟨out, h1, h2, h3, h4, h5⟩ := h.o
  have R := h.run hne hx hy
  rw [folGo_run hne hx hy e1 e2] at h3
  rw [e1, e2] at R
  obtain ⟨r1, r2, r3, r4, r5, r6, r7⟩ := R
  refine ⟨fun k3 => ?_, fun k3 q3 => ?_, fun k3 q3 => ?_⟩
  · refine ⟨r1, r2, r3, r4, r5, r6, out, h1, h2, ?_, by omega, h5⟩
    rw [h3]; unfold metL; rw [if_pos k3]; rfl
  · have n1 : nStep s q = (s.1, wrap64 (s.2 + q.n)) := by unfold nStep; rw [if_neg (by omega), if_neg (by omega), if_pos q3]
    have n2 : lStep long q = wrap64 (long - q.n) := by unfold lStep; rw [if_neg (by omega), if_pos q3]
    refine ⟨r1, r2, r3, r4, r5, r6, out ++ [q], ?_, ?_, ?_, by simp; omega, ?_⟩
    · rw [List.foldl_append, ← h1]; exact n1.symm
    · rw [List.foldl_append, ← h2]; exact n2.symm
    · rw [h3]; unfold metL; rw [if_neg k3, if_pos q3]; simp
    · have := h5.step r7
      rw [n1] at this
      simpa using this
  · have hq1 : q.kind = 1 := by omega
    have n1 : nStep s ⟨q.kind, q.n, q.text, flL p.attrs q.attrs first⟩ = (putL (flushL s).1 ⟨q.kind, q.n, q.text, flL p.attrs q.attrs first⟩, (flushL s).2) := by unfold nStep; rw [if_pos hq1]
    have n2 : lStep long ⟨q.kind, q.n, q.text, flL p.attrs q.attrs first⟩ = long := by unfold lStep; rw [if_neg (by dsimp only; omega), if_neg q3]
    refine ⟨r1, r2, r3, r4, r5, r6, out ++ [⟨q.kind, q.n, q.text, flL p.attrs q.attrs first⟩], ?_, ?_, ?_, by simp; omega, ?_⟩
    · rw [List.foldl_append, ← h1]; exact n1.symm
    · rw [List.foldl_append, ← h2]; exact n2.symm
    · rw [h3]; unfold metL; rw [if_neg k3, if_neg q3]; simp
    · have := h5.step (o := ⟨q.kind, q.n, q.text, flL p.attrs q.attrs first⟩) r7
      rw [n1] at this
      simpa using this
/-- The kinds of what is taken. -/
theorem take_kind {n : Int} {l : List Op} (hg : Gds l) (hi : insB l = false) : (takeO n l).1.kind = 1 ∨ (takeO n l).1.kind = 3 := by
  cases l with
  | nil => exact .inl rfl
  | cons o l =>
    have hk : o.kind ≠ 2 := by simpa [insB] using hi
    rcases hg o (.head _) with ⟨k2, _⟩ | ⟨k2, _⟩ | ⟨k2, _⟩
    · exact absurd k2 hk
    · exact .inr k2
    · exact .inl k2
end
/-- As the loop begins. -/
theorem frel_start {first : Bool} {a b : Change} {ra : Int} (ha : Rt a) (hb : Rt b) : FRel first (folOut first a b) ra (ms (normL a.ops) + ms (normL b.ops)) (normL a.ops) (normL b.ops) ([], 0) ra (ms (normL a.ops) + ms (normL b.ops)) :=
  ⟨Nat.le_refl _, ha.nG, hb.nG, by have := ha.nNeed; have := ha.small; omega, by have := hb.nNeed; have := hb.small; omega, fun y hy => (hb.norm.ok y hy).size, [], rfl, rfl, rfl, by simp, by simp [NB]⟩
theorem ms_le : ∀ {l : List Op}, Gds l → ms l ≤ need (ats l) + l.length
  | [], _ => by simp [ms]
  | o :: l, h => by
    have := ms_le h.tail
    have hn := (h o (.head _)).need
    rw [ms_cons, ats_cons, need_append, List.length_cons]
    omega
theorem Rt.ms {c : Change} (h : Rt c) : ms (normL c.ops) ≤ 22000 := by
  have := ms_le h.nG
  have := h.nLen
  have := h.nNeed
  have := h.small
  omega
end Go.Proofs.YtaemajcpgmaapaaDoor
