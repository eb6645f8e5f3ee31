/- Operations and their steps: the normal form of operations is told by their steps. Plain Lean. -/
import Derived.Test.YtaemajcpgmaapaaDoorAlg
namespace Go.Proofs.YtaemajcpgmaapaaDoor
open Go.RowKit
open Go.Lib

/-- An operation that may be, of any length. -/
def Gd (o : Op) : Prop :=
  (o.kind = 2 ∧ o.n = 0 ∧ validD o.text.data.toList = true ∧ o.text.data.toList ≠ [] ∧ rtErr o.attrs = 0) ∨
  (o.kind = 3 ∧ 0 < o.n ∧ o.text = ⟨#[]⟩ ∧ o.attrs = []) ∨ (o.kind = 1 ∧ 0 < o.n ∧ o.text = ⟨#[]⟩ ∧ chErr o.attrs = 0)
def Gds (l : List Op) : Prop := ∀ o ∈ l, Gd o
theorem Gds.tail {o : Op} {l : List Op} (h : Gds (o :: l)) : Gds l := fun x hx => h x (.tail _ hx)
theorem Gds.append {l m : List Op} (h : Gds l) (k : Gds m) : Gds (l ++ m) := fun o ho => (List.mem_append.1 ho).elim (h o) (k o)
theorem Gds.left {l m : List Op} (h : Gds (l ++ m)) : Gds l := fun o ho => h o (List.mem_append_left _ ho)
theorem Gds.right {l m : List Op} (h : Gds (l ++ m)) : Gds m := fun o ho => h o (List.mem_append_right _ ho)
theorem opAt2 {o : Op} (h : o.kind = 2) : opAt o = (chs o.text.data.toList).map (fun c => .ins c o.attrs) := by unfold opAt; rw [if_pos h]
theorem opAt3 {o : Op} (h : o.kind = 3) : opAt o = List.replicate o.n.toNat .del := by unfold opAt; rw [if_neg (by omega), if_pos h]
theorem opAt1 {o : Op} (h : o.kind = 1) : opAt o = List.replicate o.n.toNat (.keep o.attrs) := by unfold opAt; rw [if_neg (by omega), if_neg (by omega)]
theorem need_ins (a : List Attr) : ∀ l : List (List UInt8), need (l.map fun c => .ins c a) = 0
  | [] => rfl
  | c :: l => by simp [need, need_ins a l]
theorem Gd.need {o : Op} (h : Gd o) : (need (opAt o) : Int) = o.n := by
  rcases h with ⟨hk, hn, _⟩ | ⟨hk, hn, _⟩ | ⟨hk, hn, _⟩
  · rw [opAt2 hk, need_ins, hn]; rfl
  · rw [opAt3 hk, need_dels]; omega
  · rw [opAt1 hk, need_keeps]; omega
theorem Gd.ne {o : Op} (h : Gd o) : opAt o ≠ [] := by
  rcases h with ⟨hk, _, _, ht, _⟩ | ⟨hk, hn, _⟩ | ⟨hk, hn, _⟩
  · rw [opAt2 hk]; intro e; exact ht (chs_eq_nil.1 (List.map_eq_nil_iff.1 e))
  · rw [opAt3 hk]; intro e; rw [List.replicate_eq_nil_iff] at e; omega
  · rw [opAt1 hk]; intro e; rw [List.replicate_eq_nil_iff] at e; omega
theorem opLike_iff {a b : Op} : opLike a b = true ↔ a.kind = b.kind ∧ a.attrs = b.attrs := by simp [opLike, attrsEq]

/-- No operation is alike with the next. -/
def Mg : List Op → Prop
  | [] => True
  | [_] => True
  | a :: b :: l => opLike a b = false ∧ Mg (b :: l)
theorem Mg.tail {a : Op} {l : List Op} (h : Mg (a :: l)) : Mg l := by
  cases l with
  | nil => trivial
  | cons b l => exact h.2
theorem mg_snoc : ∀ {l : List Op} {x o : Op}, Mg (l ++ [x]) → opLike x o = false → Mg (l ++ [x] ++ [o])
  | [], _, _, _, h => ⟨h, trivial⟩
  | [_], _, _, h, k => ⟨h.1, mg_snoc (l := []) h.2 k⟩
  | _ :: b :: l, _, _, h, k => ⟨h.1, mg_snoc (l := b :: l) h.2 k⟩
theorem mg_left : ∀ {l : List Op} {x : Op}, Mg (l ++ [x]) → Mg l
  | [], _, _ => trivial
  | [_], _, _ => trivial
  | _ :: b :: l, _, h => ⟨h.1, mg_left (l := b :: l) h.2⟩
theorem mg_last : ∀ {l : List Op} {x o : Op}, Mg (l ++ [x] ++ [o]) → opLike x o = false
  | [], _, _, h => h.1
  | [_], _, _, h => h.2.1
  | _ :: b :: l, _, _, h => mg_last (l := b :: l) h.2
theorem mg_swap : ∀ {l : List Op} {x y : Op}, Mg (l ++ [x]) → x.kind = y.kind → x.attrs = y.attrs → Mg (l ++ [y])
  | [], _, _, _, _, _ => trivial
  | [a], x, y, h, hk, ha => ⟨by have := h.1; unfold opLike at this ⊢; rw [← hk, ← ha]; exact this, trivial⟩
  | a :: b :: l, x, y, h, hk, ha => ⟨h.1, mg_swap (l := b :: l) h.2 hk ha⟩

theorem w64 {x : Int} (h0 : 0 ≤ x) (h : x ≤ 4611686018427387904) : wrap64 x = x := by
  unfold wrap64; omega
theorem empty_append (s : ByteArray) : (⟨#[]⟩ : ByteArray) ++ s = s := by
  apply toList_inj
  rw [ByteArray.toList_eq, ByteArray.toList_eq]
  simp
theorem data_append (s t : ByteArray) : (s ++ t).data.toList = s.data.toList ++ t.data.toList := by simp
/-- Two that are alike, as one. -/
theorem opAt_join {x o : Op} (hx : Gd x) (ho : Gd o) (hl : opLike x o = true) (hb : x.n + o.n ≤ 4611686018427387904) :
    opAt ⟨x.kind, wrap64 (x.n + o.n), x.text ++ o.text, x.attrs⟩ = opAt x ++ opAt o ∧ Gd ⟨x.kind, wrap64 (x.n + o.n), x.text ++ o.text, x.attrs⟩ := by
  obtain ⟨hk, ha⟩ := opLike_iff.1 hl
  rcases hx with ⟨k1, n1, v1, t1, r1⟩ | ⟨k1, n1, t1, a1⟩ | ⟨k1, n1, t1, a1⟩
  · rcases ho with ⟨k2, n2, v2, t2, r2⟩ | ⟨k2, _⟩ | ⟨k2, _⟩
    · rw [opAt2 (o := ⟨x.kind, wrap64 (x.n + o.n), x.text ++ o.text, x.attrs⟩) k1, opAt2 k1, opAt2 k2, n1, n2]
      simp only [data_append]
      rw [chs_append _ v1, List.map_append, ha]
      refine ⟨rfl, .inl ⟨k1, (w64 (x := 0 + 0) (by omega) (by omega)), ?_, ?_, by simp only; rw [← ha]; exact r1⟩⟩
      · simp only [data_append]; rw [valid_append _ v1]; exact v2
      · simp only [data_append]; simp [t1]
    · omega
    · omega
  · rcases ho with ⟨k2, _⟩ | ⟨k2, n2, t2, a2⟩ | ⟨k2, _⟩
    · omega
    · rw [opAt3 (o := ⟨x.kind, wrap64 (x.n + o.n), x.text ++ o.text, x.attrs⟩) k1, opAt3 k1, opAt3 k2, w64 (by omega) hb]
      refine ⟨?_, .inr (.inl ⟨k1, by simp only; omega, by simp only; rw [t1, t2]; rfl, a1⟩)⟩
      simp only
      rw [List.replicate_append_replicate]
      congr 1
      omega
    · omega
  · rcases ho with ⟨k2, _⟩ | ⟨k2, _⟩ | ⟨k2, n2, t2, a2⟩
    · omega
    · omega
    · rw [opAt1 (o := ⟨x.kind, wrap64 (x.n + o.n), x.text ++ o.text, x.attrs⟩) k1, opAt1 k1, opAt1 k2, w64 (by omega) hb]
      refine ⟨?_, .inr (.inr ⟨k1, by simp only; omega, by simp only; rw [t1, t2]; rfl, a1⟩)⟩
      simp only
      rw [ha, List.replicate_append_replicate]
      congr 1
      omega
theorem putL_law {l : List Op} {o : Op} (hl : Gds l) (hm : Mg l) (ho : Gd o) (hb : need (ats l) + need (opAt o) ≤ 4611686018427387904) : Gds (putL l o) ∧ Mg (putL l o) ∧ ats (putL l o) = ats l ++ opAt o := by
  unfold putL
  rcases List.eq_nil_or_concat l with rfl | ⟨l0, x, rfl⟩
  · exact ⟨fun y hy => by simp at hy; subst hy; exact ho, trivial, by simp [ats]⟩
  · rw [List.concat_eq_append] at *
    have e : (l0 ++ [x]).getLast? = some x := by simp
    rw [e]
    have hx : Gd x := hl x (by simp)
    dsimp only
    split
    · next hlk =>
      rw [ats_append, ats_one, need_append] at hb
      have h1 := hx.need
      have h2 := ho.need
      have hj := opAt_join hx ho hlk (by omega)
      rw [List.dropLast_concat]
      refine ⟨hl.left.append fun y hy => by simp at hy; subst hy; exact hj.2, mg_swap hm rfl rfl, ?_⟩
      rw [ats_append, ats_one, hj.1, ats_append, ats_one, List.append_assoc]
    · next hlk =>
      exact ⟨hl.append fun y hy => by simp at hy; subst hy; exact ho, mg_snoc hm (by simpa using hlk), by rw [ats_append, ats_one]⟩
theorem flushL_law {l : List Op} {g : Int} (hl : Gds l) (hm : Mg l) (hg : 0 ≤ g) (hb : (need (ats l) : Int) + g ≤ 4611686018427387904) :
    Gds (flushL (l, g)).1 ∧ Mg (flushL (l, g)).1 ∧ ats (flushL (l, g)).1 = ats l ++ List.replicate g.toNat .del ∧ (flushL (l, g)).2 = 0 := by
  unfold flushL
  by_cases h : 0 < g
  · rw [if_pos h]
    have ho : Gd ⟨3, g, ⟨#[]⟩, []⟩ := .inr (.inl ⟨rfl, h, rfl, rfl⟩)
    have hn : (need (opAt ⟨3, g, ⟨#[]⟩, []⟩) : Int) = g := ho.need
    obtain ⟨h1, h2, h3⟩ := putL_law hl hm ho (by omega)
    refine ⟨h1, h2, ?_, rfl⟩
    dsimp only
    rw [h3, opAt3 rfl]
  · rw [if_neg h]
    obtain rfl : g = 0 := by omega
    exact ⟨hl, hm, by simp, rfl⟩
theorem cn_ins (a : List Attr) (r : List At) (g : Nat) : ∀ cs : List (List UInt8), cn (cs.map (fun c => .ins c a) ++ r) g = cs.map (fun c => .ins c a) ++ cn r g
  | [] => rfl
  | c :: cs => by simp only [List.map_cons, List.cons_append, cn]; rw [cn_ins a r g cs]
theorem cn_dels (r : List At) : ∀ n g, cn (List.replicate n .del ++ r) g = cn r (g + n)
  | 0, g => rfl
  | n + 1, g => by rw [List.replicate_succ, List.cons_append, cn, cn_dels r n (g + 1)]; congr 1; omega
theorem cn_keeps0 (a : List Attr) (r : List At) : ∀ n, cn (List.replicate n (.keep a) ++ r) 0 = List.replicate n (.keep a) ++ cn r 0
  | 0 => rfl
  | n + 1 => by rw [List.replicate_succ, List.cons_append, cn, cn_keeps0 a r n]; rfl
theorem cn_keeps (a : List Attr) (r : List At) (n g : Nat) (hn : 0 < n) : cn (List.replicate n (.keep a) ++ r) g = List.replicate g .del ++ List.replicate n (.keep a) ++ cn r 0 := by
  obtain ⟨n, rfl⟩ : ∃ m, n = m + 1 := ⟨n - 1, by omega⟩
  rw [List.replicate_succ, List.cons_append, cn, cn_keeps0 a r n]
  simp
theorem fold_law : ∀ (ops l : List Op) (g : Int), Gds ops → Gds l → Mg l → 0 ≤ g → g + need (ats l) + need (ats ops) ≤ 4611686018427387904 →
    Gds (ops.foldl nStep (l, g)).1 ∧ Mg (ops.foldl nStep (l, g)).1 ∧ 0 ≤ (ops.foldl nStep (l, g)).2 ∧ (ops.foldl nStep (l, g)).2 + need (ats (ops.foldl nStep (l, g)).1) ≤ 4611686018427387904 ∧
      ats (ops.foldl nStep (l, g)).1 ++ List.replicate (ops.foldl nStep (l, g)).2.toNat .del = ats l ++ cn (ats ops) g.toNat
  | [], l, g, _, hl, hm, hg, hb => ⟨hl, hm, hg, by simpa [ats, need] using hb, rfl⟩
  | o :: ops, l, g, ho, hl, hm, hg, hb => by
    have hoo := ho o (.head _)
    have hn := hoo.need
    rw [ats_cons, need_append] at hb
    simp only [List.foldl_cons]
    rcases hoo with ⟨k1, n1, v1, t1, r1⟩ | ⟨k1, n1, t1, a1⟩ | ⟨k1, n1, t1, a1⟩
    · obtain ⟨p1, p2, p3⟩ := putL_law hl hm (.inl ⟨k1, n1, v1, t1, r1⟩) (by omega)
      have e : nStep (l, g) o = (putL l o, g) := by unfold nStep; rw [if_neg (by omega), if_pos k1]
      rw [e]
      have := fold_law ops (putL l o) g ho.tail p1 p2 hg (by rw [p3, need_append]; omega)
      refine ⟨this.1, this.2.1, this.2.2.1, this.2.2.2.1, ?_⟩
      rw [this.2.2.2.2, p3, ats_cons, opAt2 k1, cn_ins, List.append_assoc]
    · have e : nStep (l, g) o = (l, g + o.n) := by
        unfold nStep; rw [if_neg (by omega), if_neg (by omega), if_pos k1]
        dsimp only
        rw [w64 (by omega) (by omega)]
      rw [e]
      have := fold_law ops l (g + o.n) ho.tail hl hm (by omega) (by omega)
      refine ⟨this.1, this.2.1, this.2.2.1, this.2.2.2.1, ?_⟩
      rw [this.2.2.2.2, ats_cons, opAt3 k1, cn_dels, show (g + o.n).toNat = g.toNat + o.n.toNat by omega]
    · obtain ⟨f1, f2, f3, f4⟩ := flushL_law hl hm hg (by omega)
      have hfn : (need (ats (flushL (l, g)).1) : Int) = need (ats l) + g := by rw [f3, need_append, need_dels]; omega
      obtain ⟨p1, p2, p3⟩ := putL_law f1 f2 (.inr (.inr ⟨k1, n1, t1, a1⟩)) (by omega)
      have e : nStep (l, g) o = (putL (flushL (l, g)).1 o, 0) := by unfold nStep; rw [if_pos k1, f4]
      rw [e]
      have := fold_law ops (putL (flushL (l, g)).1 o) 0 ho.tail p1 p2 (by omega) (by rw [p3, need_append]; omega)
      refine ⟨this.1, this.2.1, this.2.2.1, this.2.2.2.1, ?_⟩
      rw [this.2.2.2.2, p3, f3, ats_cons, opAt1 k1, cn_keeps _ _ _ _ (by omega)]
      simp
theorem normS_law {ops : List Op} (ho : Gds ops) (hb : need (ats ops) ≤ 4611686018427387904) : Gds (normS ops).1 ∧ Mg (normS ops).1 ∧ ats (normS ops).1 = cn (ats ops) 0 := by
  obtain ⟨h1, h2, h3, h4, h5⟩ := fold_law ops [] 0 ho (fun _ h => by cases h) trivial (by omega) (by rw [ats_nil, need]; omega)
  unfold normS
  generalize ops.foldl nStep ([], 0) = s at *
  obtain ⟨l, g⟩ := s
  obtain ⟨f1, f2, f3, f4⟩ := flushL_law h1 h2 h3 (by dsimp only at h4 ⊢; omega)
  refine ⟨f1, f2, ?_⟩
  rw [f3]
  exact h5
theorem trimA_self : ∀ {x : List At}, x.getLast? ≠ some (.keep []) → trimA x = x
  | [], _ => rfl
  | [a], h => by
    unfold trimA
    rw [if_neg (by rintro ⟨e, _⟩; subst e; exact h rfl)]
    rfl
  | a :: b :: x, h => by
    have ih := trimA_self (x := b :: x) (by simpa using h)
    rw [trimA, ih, if_neg (by simp)]
theorem opAt_last {o : Op} (h : Gd o) (hn : ¬ (o.kind = 1 ∧ o.attrs = [])) (x : List At) : (x ++ opAt o).getLast? ≠ some (.keep []) := by
  rw [List.getLast?_append]
  have hne := h.ne
  intro e
  have hlast : (opAt o).getLast? = some (.keep []) := by
    cases hh : (opAt o).getLast? with
    | none => rw [List.getLast?_eq_none_iff] at hh; exact absurd hh hne
    | some y => rw [hh] at e; simpa using e
  have hm : At.keep [] ∈ opAt o := List.mem_of_getLast? hlast
  rcases h with ⟨hk, _⟩ | ⟨hk, _⟩ | ⟨hk, _⟩
  · rw [opAt2 hk] at hm; simp at hm
  · rw [opAt3 hk] at hm; simp at hm
  · rw [opAt1 hk] at hm
    simp at hm
    exact hn ⟨hk, hm.2⟩
theorem trimL_law {l : List Op} (hl : Gds l) (hm : Mg l) : Gds (trimL l) ∧ Mg (trimL l) ∧ ats (trimL l) = trimA (ats l) := by
  unfold trimL
  rcases List.eq_nil_or_concat l with rfl | ⟨l0, x, rfl⟩
  · exact ⟨hl, hm, rfl⟩
  · rw [List.concat_eq_append] at *
    have e : (l0 ++ [x]).getLast? = some x := by simp
    rw [e]
    have hx : Gd x := hl x (by simp)
    dsimp only
    split
    · next hk =>
      rw [List.dropLast_concat]
      refine ⟨hl.left, mg_left hm, ?_⟩
      rw [ats_append, ats_one, opAt1 hk.1, hk.2, trimA_append]
      rcases List.eq_nil_or_concat l0 with rfl | ⟨l1, y, rfl⟩
      · rfl
      · rw [List.concat_eq_append] at *
        have hy : Gd y := hl y (by simp)
        have hlk := mg_last hm
        rw [ats_append, ats_one, trimA_self (opAt_last hy (fun h => ?_) _)]
        have : opLike y x = true := opLike_iff.2 ⟨h.1.trans hk.1.symm, h.2.trans hk.2.symm⟩
        rw [this] at hlk
        cases hlk
    · next hk => exact ⟨hl, hm, by rw [ats_append, ats_one, trimA_self (opAt_last hx hk _)]⟩

/-! ### back from steps to operations -/
def atOp : At → Op
  | .ins c a => ⟨2, 0, ⟨c.toArray⟩, a⟩
  | .del => ⟨3, 1, ⟨#[]⟩, []⟩
  | .keep a => ⟨1, 1, ⟨#[]⟩, a⟩
def consO (x : Op) : List Op → List Op
  | [] => [x]
  | o :: l => if opLike x o = true then ⟨x.kind, x.n + o.n, x.text ++ o.text, x.attrs⟩ :: l else x :: o :: l
def grp (x : List At) : List Op := x.foldr (fun a l => consO (atOp a) l) []
def NoLike (o : Op) : List Op → Prop
  | [] => True
  | b :: _ => opLike o b = false
theorem mg_nolike {o : Op} {l : List Op} (h : Mg (o :: l)) : NoLike o l := by
  cases l with
  | nil => trivial
  | cons b l => exact h.1
theorem consO_no {o : Op} {l : List Op} (h : NoLike o l) : consO o l = o :: l := by
  cases l with
  | nil => rfl
  | cons b l =>
    show (if opLike o b = true then _ else _) = _
    rw [if_neg (by rw [show opLike o b = false from h]; simp)]
theorem consO_yes {x o : Op} {l : List Op} (h : opLike x o = true) : consO x (o :: l) = ⟨x.kind, x.n + o.n, x.text ++ o.text, x.attrs⟩ :: l := if_pos h
theorem NoLike.congr {o p : Op} {l : List Op} (h : NoLike o l) (hk : p.kind = o.kind) (ha : p.attrs = o.attrs) : NoLike p l := by
  cases l with
  | nil => trivial
  | cons b l => show opLike p b = false; unfold opLike; rw [hk, ha]; exact h
theorem grp_keeps (a : List Attr) (l : List Op) (h : NoLike ⟨1, 1, ⟨#[]⟩, a⟩ l) : ∀ n : Nat, (List.replicate (n + 1) (At.keep a)).foldr (fun a l => consO (atOp a) l) l = ⟨1, n + 1, ⟨#[]⟩, a⟩ :: l
  | 0 => by simpa [atOp] using consO_no h
  | n + 1 => by
    rw [List.replicate_succ, List.foldr_cons, grp_keeps a l h n]
    refine (consO_yes (by exact opLike_iff.2 ⟨rfl, rfl⟩)).trans ?_
    show (⟨_, _, _, _⟩ : Op) :: l = _
    congr 2
    simp only [atOp]; omega
theorem grp_dels (l : List Op) (h : NoLike ⟨3, 1, ⟨#[]⟩, []⟩ l) : ∀ n : Nat, (List.replicate (n + 1) At.del).foldr (fun a l => consO (atOp a) l) l = ⟨3, n + 1, ⟨#[]⟩, []⟩ :: l
  | 0 => by simpa [atOp] using consO_no h
  | n + 1 => by
    rw [List.replicate_succ, List.foldr_cons, grp_dels l h n]
    refine (consO_yes (by exact opLike_iff.2 ⟨rfl, rfl⟩)).trans ?_
    show (⟨_, _, _, _⟩ : Op) :: l = _
    congr 2
    simp only [atOp]; omega
theorem grp_ins (a : List Attr) (l : List Op) : ∀ (cs : List (List UInt8)) (c : List UInt8), NoLike ⟨2, 0, ⟨#[]⟩, a⟩ l →
    ((c :: cs).map (fun c => At.ins c a)).foldr (fun a l => consO (atOp a) l) l = ⟨2, 0, ⟨(c :: cs).flatten.toArray⟩, a⟩ :: l
  | [], c, h => by
    simp only [List.map_cons, List.map_nil, List.foldr_cons, List.foldr_nil]
    refine (consO_no (o := ⟨2, 0, ⟨c.toArray⟩, a⟩) (h.congr rfl rfl)).trans ?_
    simp
  | d :: cs, c, h => by
    rw [List.map_cons, List.foldr_cons, grp_ins a l cs d h]
    refine (consO_yes (by exact opLike_iff.2 ⟨rfl, rfl⟩)).trans ?_
    show (⟨_, _, _, _⟩ : Op) :: l = _
    congr 2
theorem grp_ats : ∀ {l : List Op}, Gds l → Mg l → grp (ats l) = l
  | [], _, _ => rfl
  | o :: l, hg, hm => by
    have ih := grp_ats hg.tail hm.tail
    unfold grp at ih ⊢
    rw [ats_cons, List.foldr_append, ih]
    have hno := mg_nolike hm
    rcases hg o (.head _) with ⟨hk, hn, hv, ht, hr⟩ | ⟨hk, hn, ht, ha⟩ | ⟨hk, hn, ht, ha⟩
    · rw [opAt2 hk]
      cases hc : chs o.text.data.toList with
      | nil => exact absurd (chs_eq_nil.1 hc) ht
      | cons c cs =>
        rw [grp_ins o.attrs l cs c (hno.congr hk.symm rfl), ← hc, chs_flatten]
        obtain ⟨k, n, t, a⟩ := o
        simp only at hk hn
        subst hk hn
        rfl
    · rw [opAt3 hk]
      obtain ⟨k, n, t, a⟩ := o
      simp only at hk hn ht ha
      subst hk ht ha
      obtain ⟨m, rfl⟩ : ∃ m : Nat, n = m + 1 := ⟨(n - 1).toNat, by omega⟩
      have := grp_dels l (hno.congr rfl rfl) m
      simpa using this
    · rw [opAt1 hk]
      obtain ⟨k, n, t, a⟩ := o
      simp only at hk hn ht ha
      subst hk ht
      obtain ⟨m, rfl⟩ : ∃ m : Nat, n = m + 1 := ⟨(n - 1).toNat, by omega⟩
      have := grp_keeps a l (hno.congr rfl rfl) m
      simpa using this
/-- The normal form is told by the steps. -/
theorem normL_law {ops : List Op} (ho : Gds ops) (hb : need (ats ops) ≤ 4611686018427387904) :
    Gds (normL ops) ∧ Mg (normL ops) ∧ ats (normL ops) = trimA (cn (ats ops) 0) ∧ normL ops = grp (trimA (cn (ats ops) 0)) := by
  obtain ⟨h1, h2, h3⟩ := normS_law ho hb
  obtain ⟨t1, t2, t3⟩ := trimL_law h1 h2
  have e : ats (normL ops) = trimA (cn (ats ops) 0) := by unfold normL; rw [t3, h3]
  exact ⟨t1, t2, e, by rw [← e]; exact (grp_ats t1 t2).symm⟩
theorem ks_opAt {o : Op} (h : Gd o) : KS (opAt o) := by
  intro a ha
  rcases h with ⟨hk, _⟩ | ⟨hk, _⟩ | ⟨hk, _, _, hc⟩
  · rw [opAt2 hk] at ha; simp at ha
  · rw [opAt3 hk] at ha; simp at ha
  · rw [opAt1 hk] at ha
    simp at ha
    rw [ha.2]
    exact ch_srt hc
theorem ks_ats {l : List Op} (h : Gds l) : KS (ats l) := by
  intro a ha
  obtain ⟨o, ho, ha⟩ := List.mem_flatMap.1 ha
  exact ks_opAt (h o ho) a ha
theorem normL_congr {A B : List Op} {n : Nat} (hA : Gds A) (hB : Gds B) (nA : need (ats A) ≤ n) (nB : need (ats B) ≤ n) (hn : n ≤ 4611686018427387904) (h : act (genFrom 0 n) (ats A) = act (genFrom 0 n) (ats B)) : normL A = normL B := by
  rw [(normL_law hA (by omega)).2.2.2, (normL_law hB (by omega)).2.2.2, cn_congr (ks_ats hA) (ks_ats hB) nA nB h]
theorem act_normL {A : List Op} (hA : Gds A) (hb : need (ats A) ≤ 4611686018427387904) (L : List Cell) (hL : CS L) : act L (ats (normL A)) = act L (ats A) := by
  rw [(normL_law hA hb).2.2.1, act_trimA _ _ hL, act_cn]
  simp
theorem need_trimA : ∀ x, need (trimA x) ≤ need x
  | [] => Nat.le_refl _
  | a :: x => by
    have ih := need_trimA x
    unfold trimA
    split
    · simp [need]
    · cases a <;> simp [need] <;> omega
theorem need_cn : ∀ (x : List At) (g : Nat), need (cn x g) = need x + g
  | [], g => by simp [cn, need, need_dels]
  | .ins c a :: r, g => by simp [cn, need, need_cn r g]
  | .del :: r, g => by simp [cn, need, need_cn r (g + 1)]; omega
  | .keep a :: r, g => by simp [cn, need, need_cn r 0, need_append, need_dels]; omega
theorem need_normL {A : List Op} (hA : Gds A) (hb : need (ats A) ≤ 4611686018427387904) : need (ats (normL A)) ≤ need (ats A) := by
  rw [(normL_law hA hb).2.2.1]
  have := need_trimA (cn (ats A) 0)
  rw [need_cn] at this
  omega
theorem normL_idem {A : List Op} (hA : Gds A) (hb : need (ats A) ≤ 4611686018427387904) : normL (normL A) = normL A :=
  normL_congr (n := need (ats A)) (normL_law hA hb).1 hA (need_normL hA hb) (Nat.le_refl _) hb (act_normL hA hb _ (genFrom_cs _ _))
end Go.Proofs.YtaemajcpgmaapaaDoor
