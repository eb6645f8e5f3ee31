/- What follow.Follow writes, by operations, comes to the same steps. Plain Lean. -/
import Derived.Test.YtaemajcpgmaapaaDoorFolP
namespace Go.Proofs.YtaemajcpgmaapaaDoor
open Go.RowKit
open Go.Lib

/-- What one step meets. -/
def fo1 (first : Bool) : At → At → List At
  | .keep _, .del => [.del]
  | .keep u, .keep v => [.keep (flM first u v)]
  | _, _ => []
def NoI : At → Prop
  | .ins _ _ => False
  | _ => True
theorem folA_run (first : Bool) (a b : At) (ha : NoI a) (hb : NoI b) (X Y : List At) : ∀ n, folA first (List.replicate n a ++ X) (List.replicate n b ++ Y) = (List.replicate n (fo1 first a b)).flatten ++ folA first X Y
  | 0 => rfl
  | n + 1 => by
    have ih := folA_run first a b ha hb X Y n
    rw [List.replicate_succ, List.replicate_succ, List.replicate_succ, List.cons_append, List.cons_append, List.flatten_cons]
    cases a with
    | ins c u => exact ha.elim
    | del =>
      cases b with
      | ins c u => exact hb.elim
      | del => rw [folA, ih]; rfl
      | keep v => rw [folA, ih]; rfl
    | keep u =>
      cases b with
      | ins c u => exact hb.elim
      | del => rw [folA, ih]; rfl
      | keep v => rw [folA, ih]; rfl
theorem folA_runL (first : Bool) (a : At) (ha : NoI a) (hs : AtS a) (X : List At) : ∀ n, folA first (List.replicate n a ++ X) [] = (List.replicate n (fo1 first a (.keep []))).flatten ++ folA first X []
  | 0 => rfl
  | n + 1 => by
    have ih := folA_runL first a ha hs X n
    rw [List.replicate_succ, List.replicate_succ, List.cons_append, List.flatten_cons]
    cases a with
    | ins c u => exact ha.elim
    | del => rw [folA, ih]; rfl
    | keep u => rw [folA, ih, fo1, flM_nil first u hs]; rfl
theorem folA_runR (first : Bool) (b : At) (hb : NoI b) (hs : AtS b) (Y : List At) : ∀ n, folA first [] (List.replicate n b ++ Y) = (List.replicate n (fo1 first (.keep []) b)).flatten ++ folA first [] Y
  | 0 => rfl
  | n + 1 => by
    have ih := folA_runR first b hb hs Y n
    rw [List.replicate_succ, List.replicate_succ, List.cons_append, List.flatten_cons]
    cases b with
    | ins c u => exact hb.elim
    | del => rw [folA, ih]; rfl
    | keep u => rw [folA, ih, fo1, nil_flM first u hs]; rfl
def isIns : List At → Bool
  | .ins _ _ :: _ => true
  | _ => false
theorem folA_insY (first : Bool) (X Y : List At) (a : List Attr) : ∀ cs : List (List UInt8), (first = true ∨ isIns X = false) → folA first X (cs.map (fun c => .ins c a) ++ Y) = cs.map (fun c => .ins c a) ++ folA first X Y
  | [], _ => rfl
  | c :: cs, h => by
    have ih := folA_insY first X Y a cs h
    rw [List.map_cons, List.cons_append, List.cons_append, ← ih]
    match X, h with
    | [], _ => rw [folA]
    | .ins d b :: X, h =>
      rcases h with h | h
      · rw [folA, if_pos h]
      · cases h
    | .del :: X, _ => rw [folA]
    | .keep u :: X, _ => rw [folA]
theorem folA_insX (first : Bool) (X Y : List At) (a : List Attr) : ∀ cs : List (List UInt8), (first = false ∨ isIns Y = false) → folA first (cs.map (fun c => .ins c a) ++ X) Y = List.replicate cs.length (.keep []) ++ folA first X Y
  | [], _ => rfl
  | c :: cs, h => by
    have ih := folA_insX first X Y a cs h
    rw [List.map_cons, List.cons_append, List.length_cons, List.replicate_succ, List.cons_append, ← ih]
    match Y, h with
    | [], _ => rw [folA]
    | .ins d b :: Y, h =>
      rcases h with h | h
      · rw [folA, if_neg (by simp [h])]
      · cases h
    | .del :: Y, _ => rw [folA]
    | .keep u :: Y, _ => rw [folA]
theorem isIns_ats {l : List Op} (h : Gds l) : isIns (ats l) = insB l := by
  cases l with
  | nil => rfl
  | cons o l =>
    rw [ats_cons]
    show _ = (o.kind == 2)
    have hne := (h o (.head _)).ne
    rcases h o (.head _) with ⟨hk, _⟩ | ⟨hk, _⟩ | ⟨hk, _⟩
    · rw [hk]
      rw [opAt2 hk] at hne ⊢
      cases hc : chs o.text.data.toList with
      | nil => rw [hc] at hne; exact absurd rfl hne
      | cons c cs => rfl
    · rw [hk]
      rw [opAt3 hk] at hne ⊢
      cases hn : o.n.toNat with
      | zero => rw [hn] at hne; exact absurd rfl hne
      | succ n => rfl
    · rw [hk]
      rw [opAt1 hk] at hne ⊢
      cases hn : o.n.toNat with
      | zero => rw [hn] at hne; exact absurd rfl hne
      | succ n => rfl

/-- How many rounds there are at most. -/
def ms (l : List Op) : Nat := (l.map fun o => o.n.toNat + 1).sum
theorem ms_cons (o : Op) (l : List Op) : ms (o :: l) = o.n.toNat + 1 + ms l := by simp [ms]
def stepO (o : Op) : At := if o.kind = 3 then .del else .keep o.attrs
theorem opAt_step {o : Op} (h : o.kind ≠ 2) : opAt o = List.replicate o.n.toNat (stepO o) := by
  unfold opAt stepO
  rw [if_neg h]
  split <;> rfl
theorem noI_step (o : Op) : NoI (stepO o) := by unfold stepO; split <;> trivial
theorem atS_step {o : Op} (h : Gd o) (hk : o.kind ≠ 2) : AtS (stepO o) := by
  unfold stepO
  rcases h with ⟨k, _⟩ | ⟨k, _⟩ | ⟨k, _, _, hc⟩
  · exact absurd k hk
  · rw [if_pos k]; trivial
  · rw [if_neg (by omega)]; exact ch_srt hc
theorem take_law {n : Int} {o : Op} {l : List Op} (hg : Gds (o :: l)) (hk : o.kind ≠ 2) (h0 : 0 < n) (hn : n ≤ o.n) (hb : o.n ≤ 4611686018427387904) :
    Gds (takeO n (o :: l)).2 ∧ ats (o :: l) = List.replicate n.toNat (stepO o) ++ ats (takeO n (o :: l)).2 ∧ ms (takeO n (o :: l)).2 < ms (o :: l) := by
  unfold takeO
  dsimp only
  rw [w64 (by omega) (by omega)]
  have ho := hg o (.head _)
  by_cases h : o.n - n = 0
  · rw [if_pos h]
    refine ⟨hg.tail, ?_, by rw [ms_cons]; omega⟩
    rw [ats_cons, opAt_step hk, show o.n = n by omega]
  · rw [if_neg h]
    have hg' : Gd ⟨o.kind, o.n - n, o.text, o.attrs⟩ := by
      rcases ho with ⟨k, _⟩ | ⟨k, k1, k2, k3⟩ | ⟨k, k1, k2, k3⟩
      · exact absurd k hk
      · exact .inr (.inl ⟨k, by simp only; omega, k2, k3⟩)
      · exact .inr (.inr ⟨k, by simp only; omega, k2, k3⟩)
    refine ⟨fun x hx => ?_, ?_, by rw [ms_cons, ms_cons]; dsimp only; omega⟩
    · cases hx with
      | head => exact hg'
      | tail _ hx => exact hg.tail x hx
    · rw [ats_cons, ats_cons, opAt_step hk, opAt_step (o := ⟨o.kind, o.n - n, o.text, o.attrs⟩) hk, ← List.append_assoc]
      congr 1
      rw [show stepO ⟨o.kind, o.n - n, o.text, o.attrs⟩ = stepO o from rfl, List.replicate_append_replicate]
      congr 1
      dsimp only
      omega
theorem takeO_fst (n : Int) (o : Op) (l : List Op) : (takeO n (o :: l)).1 = ⟨o.kind, n, o.text, o.attrs⟩ := rfl
theorem takeO_nil (n : Int) : takeO n [] = (⟨1, n, ⟨#[]⟩, []⟩, []) := rfl
/-- What a round writes where two are about runes. -/
def metL (first : Bool) (p q : Op) : List Op :=
  if p.kind = 3 then [] else if q.kind = 3 then [q] else [⟨q.kind, q.n, q.text, flL p.attrs q.attrs first⟩]
theorem metL_law {first : Bool} {p q : Op} {n : Int} (hp : Gd p) (hq : Gd q) (kp : p.kind ≠ 2) (kq : q.kind ≠ 2) (_ : p.n = n) (nq : q.n = n) :
    Gds (metL first p q) ∧ ats (metL first p q) = (List.replicate n.toNat (fo1 first (stepO p) (stepO q))).flatten := by
  have hrep : ∀ s : At, (List.replicate n.toNat [s]).flatten = List.replicate n.toNat s := fun s => by
    generalize n.toNat = k
    induction k with
    | zero => rfl
    | succ k ih => rw [List.replicate_succ, List.flatten_cons, ih, List.replicate_succ]; rfl
  have hrep0 : (List.replicate n.toNat ([] : List At)).flatten = [] := by
    generalize n.toNat = k
    induction k with
    | zero => rfl
    | succ k ih => rw [List.replicate_succ, List.flatten_cons, ih]; rfl
  unfold metL
  by_cases k3 : p.kind = 3
  · rw [if_pos k3]
    refine ⟨fun _ h => (by cases h), ?_⟩
    rw [show stepO p = .del by unfold stepO; rw [if_pos k3]]
    rw [show fo1 first .del (stepO q) = [] by cases stepO q <;> rfl, hrep0]; rfl
  · rw [if_neg k3]
    have e1 : stepO p = .keep p.attrs := by unfold stepO; rw [if_neg k3]
    by_cases k4 : q.kind = 3
    · rw [if_pos k4]
      refine ⟨fun x h => by simp at h; subst h; exact hq, ?_⟩
      rw [ats_one, opAt_step kq, e1, show stepO q = .del by unfold stepO; rw [if_pos k4], nq]
      exact (hrep .del).symm
    · rw [if_neg k4]
      have e2 : stepO q = .keep q.attrs := by unfold stepO; rw [if_neg k4]
      have hpc : chErr p.attrs = 0 := by
        rcases hp with ⟨k, _⟩ | ⟨k, _⟩ | ⟨_, _, _, hc⟩
        · exact absurd k kp
        · exact absurd k k3
        · exact hc
      rcases hq with ⟨k, _⟩ | ⟨k, _⟩ | ⟨k, hn, ht, hc⟩
      · exact absurd k kq
      · exact absurd k k4
      · rw [flL_eq hpc hc]
        refine ⟨fun x h => by simp at h; subst h; exact .inr (.inr ⟨k, hn, ht, flM_ch hpc hc⟩), ?_⟩
        rw [ats_one, opAt1 (o := ⟨q.kind, q.n, q.text, flM first p.attrs q.attrs⟩) k, e1, e2]
        dsimp only
        rw [nq]
        exact (hrep _).symm
theorem folGo_law (first : Bool) : ∀ (k : Nat) (x y : List Op), Gds x → Gds y → need (ats x) ≤ 4611686018427387904 → need (ats y) ≤ 4611686018427387904 → ms x + ms y ≤ k →
    Gds (folGo first k x y) ∧ ats (folGo first k x y) = folA first (ats x) (ats y)
  | 0, x, y, hx, hy, _, _, hk => by
    have hx0 : x = [] := by cases x with | nil => rfl | cons o x => rw [ms_cons] at hk; omega
    have hy0 : y = [] := by cases y with | nil => rfl | cons o y => rw [ms_cons] at hk; omega
    subst hx0 hy0
    exact ⟨fun _ h => (by cases h), by simp [folGo, ats, folA]⟩
  | k + 1, x, y, hx, hy, bx, by_, hk => by
    unfold folGo
    by_cases h0 : x.length = 0 ∧ y.length = 0
    · rw [if_pos h0]
      have hx0 := List.eq_nil_of_length_eq_zero h0.1
      have hy0 := List.eq_nil_of_length_eq_zero h0.2
      subst hx0 hy0
      exact ⟨fun _ h => (by cases h), by simp [ats, folA]⟩
    · rw [if_neg h0]
      by_cases h1 : (insB y && (first || !insB x)) = true
      · rw [if_pos h1]
        simp only [Bool.and_eq_true, Bool.or_eq_true, Bool.not_eq_true'] at h1
        cases y with
        | nil => cases h1.1
        | cons q y =>
          have hq := hy q (.head _)
          have k2 : q.kind = 2 := by have := h1.1; simpa [insB] using this
          rw [ats_cons, need_append] at by_
          rw [ms_cons] at hk
          obtain ⟨i1, i2⟩ := folGo_law first k x y hx hy.tail bx (by omega) (by omega)
          simp only [List.headD_cons, List.tail_cons]
          refine ⟨fun z hz => ?_, ?_⟩
          · cases hz with
            | head => exact hq
            | tail _ hz => exact i1 z hz
          · rw [ats_cons, ats_cons, i2, opAt2 k2, folA_insY]
            rw [isIns_ats hx]; exact h1.2
      · rw [if_neg h1]
        by_cases h2 : insB x = true
        · rw [if_pos h2]
          cases x with
          | nil => cases h2
          | cons p x =>
            have hp := hx p (.head _)
            have k2 : p.kind = 2 := by simpa [insB] using h2
            rw [ats_cons, need_append] at bx
            rw [ms_cons] at hk
            obtain ⟨i1, i2⟩ := folGo_law first k x y hx.tail hy (by omega) by_ (by omega)
            simp only [List.headD_cons, List.tail_cons]
            have hc : 0 < (chs p.text.data.toList).length := by
              rcases hp with ⟨_, _, _, ht, _⟩ | ⟨k3, _⟩ | ⟨k3, _⟩
              · exact List.length_pos_iff.2 fun e => ht (chs_eq_nil.1 e)
              · omega
              · omega
            refine ⟨fun z hz => ?_, ?_⟩
            · cases hz with
              | head => exact .inr (.inr ⟨rfl, by rw [count_chs]; dsimp only; omega, rfl, ch_nil⟩)
              | tail _ hz => exact i1 z hz
            · rw [ats_cons, ats_cons, i2, opAt2 k2, folA_insX, opAt1 rfl, count_chs]
              · rfl
              · rw [isIns_ats hy]
                cases first with
                | false => exact .inl rfl
                | true => right; simpa using h1
        · rw [if_neg h2]
          have hy2 : insB y = false := by
            cases hyi : insB y with
            | false => rfl
            | true =>
              rw [hyi] at h1
              simp only [Bool.true_and, Bool.or_eq_true, Bool.not_eq_true'] at h1
              exact absurd (.inr (by simpa using h2)) h1
          -- a run of both
          have key : ∀ (p q : Op) (x' y' : List Op) (n : Int), (takeO (min (leftN x) (leftN y)) x) = (p, x') → (takeO (min (leftN x) (leftN y)) y) = (q, y') → Gd p → Gd q → p.kind ≠ 2 → q.kind ≠ 2 → p.n = n → q.n = n →
              Gds x' → Gds y' → need (ats x') ≤ 4611686018427387904 → need (ats y') ≤ 4611686018427387904 → ms x' + ms y' ≤ k →
              folA first (ats x) (ats y) = (List.replicate n.toNat (fo1 first (stepO p) (stepO q))).flatten ++ folA first (ats x') (ats y') →
              Gds (metL first p q ++ folGo first k x' y') ∧ ats (metL first p q ++ folGo first k x' y') = folA first (ats x) (ats y) := by
            intro p q x' y' n _ _ hp hq kp kq np nq gx gy nx ny hm hf
            obtain ⟨i1, i2⟩ := folGo_law first k x' y' gx gy nx ny hm
            obtain ⟨m1, m2⟩ := metL_law (first := first) hp hq kp kq np nq
            exact ⟨m1.append i1, by rw [ats_append, i2, m2, hf]⟩
          have fin : ∀ (p q : Op) (x' y' : List Op), (takeO (min (leftN x) (leftN y)) x) = (p, x') → (takeO (min (leftN x) (leftN y)) y) = (q, y') →
              (if (takeO (min (leftN x) (leftN y)) x).1.kind = 3 then folGo first k (takeO (min (leftN x) (leftN y)) x).2 (takeO (min (leftN x) (leftN y)) y).2
                else if (takeO (min (leftN x) (leftN y)) y).1.kind = 3 then (takeO (min (leftN x) (leftN y)) y).1 :: folGo first k (takeO (min (leftN x) (leftN y)) x).2 (takeO (min (leftN x) (leftN y)) y).2
                else ⟨(takeO (min (leftN x) (leftN y)) y).1.kind, (takeO (min (leftN x) (leftN y)) y).1.n, (takeO (min (leftN x) (leftN y)) y).1.text, flL (takeO (min (leftN x) (leftN y)) x).1.attrs (takeO (min (leftN x) (leftN y)) y).1.attrs first⟩ ::
                  folGo first k (takeO (min (leftN x) (leftN y)) x).2 (takeO (min (leftN x) (leftN y)) y).2) = metL first p q ++ folGo first k x' y' := by
            intro p q x' y' e1 e2
            rw [e1, e2]
            unfold metL
            dsimp only
            split
            · rfl
            · split <;> rfl
          cases x with
          | nil =>
            cases y with
            | nil => exact absurd ⟨rfl, rfl⟩ h0
            | cons q y =>
              have hq := hy q (.head _)
              have kq : q.kind ≠ 2 := by simpa [insB] using hy2
              have hqn : 0 < q.n := by rcases hq with ⟨k2, _⟩ | ⟨_, h, _⟩ | ⟨_, h, _⟩ <;> first | exact absurd k2 kq | exact h
              have hqb : q.n ≤ 4611686018427387904 := by have := hq.need; rw [ats_cons, need_append] at by_; omega
              have hmin : min (leftN []) (leftN (q :: y)) ≤ q.n ∧ 0 < min (leftN []) (leftN (q :: y)) := by
                show min 20001 q.n ≤ q.n ∧ 0 < min 20001 q.n
                omega
              rw [fin _ _ _ _ (takeO_nil _) rfl]
              generalize min (leftN []) (leftN (q :: y)) = n at *
              obtain ⟨t1, t2, t3⟩ := take_law hy kq hmin.2 hmin.1 hqb
              have hq' : Gd ⟨q.kind, n, q.text, q.attrs⟩ := by
                rcases hq with ⟨k2, _⟩ | ⟨k2, _, h3, h4⟩ | ⟨k2, _, h3, h4⟩
                · exact absurd k2 kq
                · exact .inr (.inl ⟨k2, hmin.2, h3, h4⟩)
                · exact .inr (.inr ⟨k2, hmin.2, h3, h4⟩)
              refine key _ _ _ _ n (takeO_nil _) rfl (.inr (.inr ⟨rfl, hmin.2, rfl, ch_nil⟩)) hq' (show (1 : Int) ≠ 2 by decide) kq rfl rfl (fun _ h => by cases h) t1 (by simp [ats, need]) ?_ (by have e0 : ms [] = 0 := rfl; show ms [] + ms (takeO n (q :: y)).2 ≤ k; omega) ?_
              · show need (ats (takeO n (q :: y)).2) ≤ _; rw [t2, need_append] at by_; omega
              · rw [t2, ats_nil, folA_runR _ _ (noI_step _) (atS_step hq kq)]
                rfl
          | cons p x =>
            have hp := hx p (.head _)
            have kp : p.kind ≠ 2 := by simpa [insB] using h2
            have hpn : 0 < p.n := by rcases hp with ⟨k2, _⟩ | ⟨_, h, _⟩ | ⟨_, h, _⟩ <;> first | exact absurd k2 kp | exact h
            have hpb : p.n ≤ 4611686018427387904 := by have := hp.need; rw [ats_cons, need_append] at bx; omega
            cases y with
            | nil =>
              have hmin : min (leftN (p :: x)) (leftN []) ≤ p.n ∧ 0 < min (leftN (p :: x)) (leftN []) := by
                show min p.n 20001 ≤ p.n ∧ 0 < min p.n 20001
                omega
              rw [fin _ _ _ _ rfl (takeO_nil _)]
              generalize min (leftN (p :: x)) (leftN []) = n at *
              obtain ⟨t1, t2, t3⟩ := take_law hx kp hmin.2 hmin.1 hpb
              have hp' : Gd ⟨p.kind, n, p.text, p.attrs⟩ := by
                rcases hp with ⟨k2, _⟩ | ⟨k2, _, h3, h4⟩ | ⟨k2, _, h3, h4⟩
                · exact absurd k2 kp
                · exact .inr (.inl ⟨k2, hmin.2, h3, h4⟩)
                · exact .inr (.inr ⟨k2, hmin.2, h3, h4⟩)
              refine key _ _ _ _ n rfl (takeO_nil _) hp' (.inr (.inr ⟨rfl, hmin.2, rfl, ch_nil⟩)) kp (show (1 : Int) ≠ 2 by decide) rfl rfl t1 (fun _ h => by cases h) ?_ (by simp [ats, need]) (by have e0 : ms [] = 0 := rfl; show ms (takeO n (p :: x)).2 + ms [] ≤ k; omega) ?_
              · show need (ats (takeO n (p :: x)).2) ≤ _; rw [t2, need_append] at bx; omega
              · rw [t2, ats_nil, folA_runL _ _ (noI_step _) (atS_step hp kp)]
                rfl
            | cons q y =>
              have hq := hy q (.head _)
              have kq : q.kind ≠ 2 := by simpa [insB] using hy2
              have hqn : 0 < q.n := by rcases hq with ⟨k2, _⟩ | ⟨_, h, _⟩ | ⟨_, h, _⟩ <;> first | exact absurd k2 kq | exact h
              have hqb : q.n ≤ 4611686018427387904 := by have := hq.need; rw [ats_cons, need_append] at by_; omega
              have hmin : min (leftN (p :: x)) (leftN (q :: y)) ≤ p.n ∧ min (leftN (p :: x)) (leftN (q :: y)) ≤ q.n ∧ 0 < min (leftN (p :: x)) (leftN (q :: y)) := by
                show min p.n q.n ≤ p.n ∧ min p.n q.n ≤ q.n ∧ 0 < min p.n q.n
                omega
              rw [fin _ _ _ _ rfl rfl]
              generalize min (leftN (p :: x)) (leftN (q :: y)) = n at *
              obtain ⟨s1, s2, s3⟩ := take_law hx kp hmin.2.2 hmin.1 hpb
              obtain ⟨t1, t2, t3⟩ := take_law hy kq hmin.2.2 hmin.2.1 hqb
              have hp' : Gd ⟨p.kind, n, p.text, p.attrs⟩ := by
                rcases hp with ⟨k2, _⟩ | ⟨k2, _, h3, h4⟩ | ⟨k2, _, h3, h4⟩
                · exact absurd k2 kp
                · exact .inr (.inl ⟨k2, hmin.2.2, h3, h4⟩)
                · exact .inr (.inr ⟨k2, hmin.2.2, h3, h4⟩)
              have hq' : Gd ⟨q.kind, n, q.text, q.attrs⟩ := by
                rcases hq with ⟨k2, _⟩ | ⟨k2, _, h3, h4⟩ | ⟨k2, _, h3, h4⟩
                · exact absurd k2 kq
                · exact .inr (.inl ⟨k2, hmin.2.2, h3, h4⟩)
                · exact .inr (.inr ⟨k2, hmin.2.2, h3, h4⟩)
              refine key _ _ _ _ n rfl rfl hp' hq' kp kq rfl rfl s1 t1 ?_ ?_ (by show ms (takeO n (p :: x)).2 + ms (takeO n (q :: y)).2 ≤ k; omega) ?_
              · show need (ats (takeO n (p :: x)).2) ≤ _; rw [s2, need_append] at bx; omega
              · show need (ats (takeO n (q :: y)).2) ≤ _; rw [t2, need_append] at by_; omega
              · rw [s2, t2, folA_run _ _ _ (noI_step _) (noI_step _)]
                rfl
end Go.Proofs.YtaemajcpgmaapaaDoor
