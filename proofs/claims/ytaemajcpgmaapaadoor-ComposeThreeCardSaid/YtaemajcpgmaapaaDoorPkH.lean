/- What compose.Compose writes, by steps. Plain Lean. | What compose.Compose writes, by operations, comes to the same steps. Plain Lean. | What compose.Compose writes comes to the same steps; where it fails. Plain Lean. | compose.Compose: its answer, and what the laws of the stage ask of it. Plain Lean. | A text cut behind so many runes. Plain Lean. | compose.Compose's rounds, in plain Lean: what the rows have left, what the pen holds. -/
import Derived.Test.YtaemajcpgmaapaaDoorPkG
import Derived.Test.YtaemajcpgmaapaaDoorPkE
namespace Go.Proofs.YtaemajcpgmaapaaDoor
open Go.RowKit
open Go.Lib

def cmpA : List At → List At → List At
  | [], [] => []
  | .del :: x, y => .del :: cmpA x y
  | [], .ins d b :: y => .ins d b :: cmpA [] y
  | [], .del :: y => .del :: cmpA [] y
  | [], .keep v :: y => .keep v :: cmpA [] y
  | .ins c a :: x, [] => .ins c a :: cmpA x []
  | .ins c a :: x, .ins d b :: y => .ins d b :: cmpA (.ins c a :: x) y
  | .ins _ _ :: x, .del :: y => cmpA x y
  | .ins c a :: x, .keep v :: y => .ins c (apM a v) :: cmpA x y
  | .keep u :: x, [] => .keep u :: cmpA x []
  | .keep u :: x, .ins d b :: y => .ins d b :: cmpA (.keep u :: x) y
  | .keep _ :: x, .del :: y => .del :: cmpA x y
  | .keep u :: x, .keep v :: y => .keep (cpM u v) :: cmpA x y
termination_by x y => x.length + y.length

/-- One does what two do. -/
theorem cmp_act (x y : List At) (L : List Cell) (hx : AS x) (hy : AS y) (hL : CS L) (nx : need x ≤ L.length) (ny : need y ≤ (act L x).length) : act L (cmpA x y) = act (act L x) y := by
  match x, y with
  | [], [] => simp only [cmpA, act]
  | .del :: x, y =>
    obtain ⟨z, M, rfl, mx⟩ := need_pos nx
    have ih := cmp_act x y M hx.tail hy hL.tail mx (by simpa only [act] using ny)
    rw [cmpA, act, ih, act]
  | [], .ins d b :: y =>
    have ih := cmp_act [] y L hx hy.tail hL nx ny
    rw [cmpA]
    simp only [act] at ih ⊢
    rw [ih]
  | [], .del :: y =>
    simp only [act] at ny
    obtain ⟨z, M, rfl, my⟩ := need_pos ny
    have ih := cmp_act [] y M hx hy.tail hL.tail (by simp [need]) (by simpa only [act] using my)
    rw [cmpA]
    simp only [act] at ih ⊢
    rw [ih]
  | [], .keep v :: y =>
    simp only [act] at ny
    obtain ⟨z, M, rfl, my⟩ := need_pos ny
    have ih := cmp_act [] y M hx hy.tail hL.tail (by simp [need]) (by simpa only [act] using my)
    rw [cmpA]
    simp only [act] at ih ⊢
    rw [ih]
  | .ins c a :: x, [] =>
    have ih := cmp_act x [] L hx.tail hy hL nx (by simp [need])
    rw [cmpA]
    simp only [act] at ih ⊢
    rw [ih]
  | .ins c a :: x, .ins d b :: y =>
    have ih := cmp_act (.ins c a :: x) y L hx hy.tail hL nx ny
    rw [cmpA, act, ih]
    simp only [act]
  | .ins c a :: x, .del :: y =>
    have ih := cmp_act x y L hx.tail hy.tail hL nx (by simpa [act, need] using ny)
    rw [cmpA, ih]
    simp only [act]
  | .ins c a :: x, .keep v :: y =>
    have ih := cmp_act x y L hx.tail hy.tail hL nx (by simpa [act, need] using ny)
    rw [cmpA, act, ih]
    simp only [act, upd]
  | .keep u :: x, [] =>
    obtain ⟨z, M, rfl, mx⟩ := need_pos nx
    have ih := cmp_act x [] M hx.tail hy hL.tail mx (by simp [need])
    rw [cmpA]
    simp only [act] at ih ⊢
    rw [ih]
  | .keep u :: x, .ins d b :: y =>
    have ih := cmp_act (.keep u :: x) y L hx hy.tail hL nx ny
    rw [cmpA, act, ih]
    rw [act]
  | .keep u :: x, .del :: y =>
    obtain ⟨z, M, rfl, mx⟩ := need_pos nx
    have ih := cmp_act x y M hx.tail hy.tail hL.tail mx (by simpa [act, need] using ny)
    rw [cmpA, act, ih]
    simp only [act]
  | .keep u :: x, .keep v :: y =>
    obtain ⟨z, M, rfl, mx⟩ := need_pos nx
    have ih := cmp_act x y M hx.tail hy.tail hL.tail mx (by simpa [act, need] using ny)
    rw [cmpA, act, ih]
    simp only [act]
    rw [upd_cp hL.head hx.head hy.head]
termination_by x.length + y.length
theorem cmp_as (x y : List At) (hx : AS x) (hy : AS y) : AS (cmpA x y) := by
  match x, y with
  | [], [] => simp only [cmpA]; exact .nil
  | .del :: x, y => rw [cmpA]; exact .cons trivial (cmp_as x y hx.tail hy)
  | [], .ins d b :: y => rw [cmpA]; exact .cons hy.head (cmp_as [] y hx hy.tail)
  | [], .del :: y => rw [cmpA]; exact .cons trivial (cmp_as [] y hx hy.tail)
  | [], .keep v :: y => rw [cmpA]; exact .cons hy.head (cmp_as [] y hx hy.tail)
  | .ins c a :: x, [] => rw [cmpA]; exact .cons hx.head (cmp_as x [] hx.tail hy)
  | .ins c a :: x, .ins d b :: y => rw [cmpA]; exact .cons hy.head (cmp_as (.ins c a :: x) y hx hy.tail)
  | .ins c a :: x, .del :: y => rw [cmpA]; exact cmp_as x y hx.tail hy.tail
  | .ins c a :: x, .keep v :: y => rw [cmpA]; exact .cons (apM_srt hx.head hy.head) (cmp_as x y hx.tail hy.tail)
  | .keep u :: x, [] => rw [cmpA]; exact .cons hx.head (cmp_as x [] hx.tail hy)
  | .keep u :: x, .ins d b :: y => rw [cmpA]; exact .cons hy.head (cmp_as (.keep u :: x) y hx hy.tail)
  | .keep u :: x, .del :: y => rw [cmpA]; exact .cons trivial (cmp_as x y hx.tail hy.tail)
  | .keep u :: x, .keep v :: y => rw [cmpA]; exact .cons (cpM_srt hx.head hy.head) (cmp_as x y hx.tail hy.tail)
termination_by x.length + y.length
theorem cmp_need (x y : List At) (L : List Cell) (nx : need x ≤ L.length) (ny : need y ≤ (act L x).length) : need (cmpA x y) ≤ L.length := by
  match x, y with
  | [], [] => simp only [cmpA, need]; omega
  | .del :: x, y =>
    obtain ⟨z, M, rfl, mx⟩ := need_pos nx
    have ih := cmp_need x y M mx (by simpa only [act] using ny)
    rw [cmpA, need, List.length_cons]; omega
  | [], .ins d b :: y =>
    have ih := cmp_need [] y L nx ny
    rw [cmpA, need]; exact ih
  | [], .del :: y =>
    simp only [act] at ny
    obtain ⟨z, M, rfl, my⟩ := need_pos ny
    have ih := cmp_need [] y M (by simp [need]) (by simpa only [act] using my)
    rw [cmpA, need, List.length_cons]; omega
  | [], .keep v :: y =>
    simp only [act] at ny
    obtain ⟨z, M, rfl, my⟩ := need_pos ny
    have ih := cmp_need [] y M (by simp [need]) (by simpa only [act] using my)
    rw [cmpA, need, List.length_cons]; omega
  | .ins c a :: x, [] =>
    have ih := cmp_need x [] L nx (by simp [need])
    rw [cmpA, need]; exact ih
  | .ins c a :: x, .ins d b :: y =>
    have ih := cmp_need (.ins c a :: x) y L nx ny
    rw [cmpA, need]; exact ih
  | .ins c a :: x, .del :: y =>
    have ih := cmp_need x y L nx (by simpa [act, need] using ny)
    rw [cmpA]; exact ih
  | .ins c a :: x, .keep v :: y =>
    have ih := cmp_need x y L nx (by simpa [act, need] using ny)
    rw [cmpA, need]; exact ih
  | .keep u :: x, [] =>
    obtain ⟨z, M, rfl, mx⟩ := need_pos nx
    have ih := cmp_need x [] M mx (by simp [need])
    rw [cmpA, need, List.length_cons]; omega
  | .keep u :: x, .ins d b :: y =>
    have ih := cmp_need (.keep u :: x) y L nx ny
    rw [cmpA, need]; exact ih
  | .keep u :: x, .del :: y =>
    obtain ⟨z, M, rfl, mx⟩ := need_pos nx
    have ih := cmp_need x y M mx (by simpa [act, need] using ny)
    rw [cmpA, need, List.length_cons]; omega
  | .keep u :: x, .keep v :: y =>
    obtain ⟨z, M, rfl, mx⟩ := need_pos nx
    have ih := cmp_need x y M mx (by simpa [act, need] using ny)
    rw [cmpA, need, List.length_cons]; omega
termination_by x.length + y.length
end Go.Proofs.YtaemajcpgmaapaaDoor

namespace Go.Proofs.YtaemajcpgmaapaaDoor
open Go.RowKit
open Go.Lib

def endO : Op := ⟨1, 20001, ⟨#[]⟩, []⟩
def headC : List Op → Op
  | [] => endO
  | x :: _ => x
def longC (o : Op) : Int := if o.kind = 2 then runeCount o.text else o.n
def takeT (s : ByteArray) (n : Nat) : ByteArray := ⟨((chs s.data.toList).take n).flatten.toArray⟩
def dropT (s : ByteArray) (n : Nat) : ByteArray := ⟨((chs s.data.toList).drop n).flatten.toArray⟩
/-- compose.split: an operation, cut in two. -/
def splitC (o : Op) (n : Int) : Op × Op :=
  if o.kind = 2 then (⟨o.kind, o.n, takeT o.text n.toNat, o.attrs⟩, ⟨o.kind, o.n, dropT o.text n.toNat, o.attrs⟩)
  else (⟨o.kind, n, o.text, o.attrs⟩, ⟨o.kind, wrap64 (o.n - n), o.text, o.attrs⟩)
def takeC (n : Int) : List Op → Op × List Op
  | [] => (endO, [])
  | x :: l => ((splitC x n).1, (splitC x n).2 :: l)
def usedC (o : Op) : Bool := (o.n == 0) && o.text.toList.isEmpty
def dropC : List Op → List Op
  | [] => []
  | x :: l => if usedC x = true then dropC l else x :: l
def meetC (a b : Op) : List Op × Int :=
  if b.kind = 3 ∧ a.kind = 2 then ([], 0)
  else if b.kind = 3 then ([b], 0)
  else if a.kind = 2 then (if apErr a.attrs b.attrs = 0 then [⟨a.kind, a.n, a.text, apL a.attrs b.attrs⟩] else [], apErr a.attrs b.attrs)
  else (if cpErr a.attrs b.attrs = 0 then [⟨a.kind, a.n, a.text, cpL a.attrs b.attrs⟩] else [], cpErr a.attrs b.attrs)
def leftC (n : Int) (o : Op) : Op := if o.kind = 1 then ⟨o.kind, n, o.text, o.attrs⟩ else o
def rightC (n : Int) (o : Op) : Op := if o.kind ≠ 2 then ⟨o.kind, n, o.text, o.attrs⟩ else o
/-- A round: what it writes, its error, what is left. -/
def cmpStep (x y : List Op) : (List Op × Int) × List Op × List Op :=
  if (headC x).kind = 3 then (([(takeC (headC x).n x).1], 0), (takeC (headC x).n x).2, y)
  else if (headC y).kind = 2 then (([(takeC (longC (headC y)) y).1], 0), x, (takeC (longC (headC y)) y).2)
  else (meetC (leftC (min (longC (headC x)) (longC (headC y))) (takeC (min (longC (headC x)) (longC (headC y))) x).1) (rightC (min (longC (headC x)) (longC (headC y))) (takeC (min (longC (headC x)) (longC (headC y))) y).1),
    (takeC (min (longC (headC x)) (longC (headC y))) x).2, (takeC (min (longC (headC x)) (longC (headC y))) y).2)
def cmpGo : Nat → List Op → List Op → List Op × Int
  | 0, _, _ => ([], 0)
  | k + 1, x, y =>
    if x.length = 0 ∧ y.length = 0 then ([], 0)
    else if (cmpStep x y).1.2 ≠ 0 then ([], (cmpStep x y).1.2)
    else ((cmpStep x y).1.1 ++ (cmpGo k (dropC (cmpStep x y).2.1) (dropC (cmpStep x y).2.2)).1, (cmpGo k (dropC (cmpStep x y).2.1) (dropC (cmpStep x y).2.2)).2)

/-- No step has more attributes than there may be. -/
def SmS : At → Prop
  | .ins _ a => a.length ≤ 8
  | .del => True
  | .keep a => a.length ≤ 8
def Sm (x : List At) : Prop := ∀ s ∈ x, SmS s
theorem Sm.append {x y : List At} : Sm (x ++ y) ↔ Sm x ∧ Sm y :=
  ⟨fun h => ⟨fun s hs => h s (List.mem_append_left _ hs), fun s hs => h s (List.mem_append_right _ hs)⟩, fun h s hs => (List.mem_append.1 hs).elim (h.1 s) (h.2 s)⟩
theorem sm_opAt {o : Op} (h : Gd o) : Sm (opAt o) := by
  intro s hs
  rcases h with ⟨k, _, _, _, r⟩ | ⟨k, _⟩ | ⟨k, _, _, c⟩
  · rw [opAt2 k] at hs
    obtain ⟨c, _, rfl⟩ := List.mem_map.1 hs
    exact (chErr_iff.1 (rtErr_iff.1 r).1).1
  · rw [opAt3 k] at hs
    rw [List.eq_of_mem_replicate hs]; trivial
  · rw [opAt1 k] at hs
    rw [List.eq_of_mem_replicate hs]; exact (chErr_iff.1 c).1
theorem sm_ats {l : List Op} (h : Gds l) : Sm (ats l) := fun s hs => by
  obtain ⟨o, ho, hs⟩ := List.mem_flatMap.1 hs
  exact sm_opAt (h o ho) s hs

/-! ### runs of steps -/
theorem cmpA_dels (X Y : List At) : ∀ n, cmpA (List.replicate n .del ++ X) Y = List.replicate n .del ++ cmpA X Y
  | 0 => rfl
  | n + 1 => by rw [List.replicate_succ, List.cons_append, cmpA, cmpA_dels X Y n]; rfl
def NoD : List At → Prop
  | .del :: _ => False
  | _ => True
theorem cmpA_insY (X Y : List At) (b : List Attr) (h : NoD X) : ∀ cs : List (List UInt8), cmpA X (cs.map (fun c => .ins c b) ++ Y) = cs.map (fun c => .ins c b) ++ cmpA X Y
  | [] => rfl
  | c :: cs => by
    have ih := cmpA_insY X Y b h cs
    rw [List.map_cons, List.cons_append, List.cons_append, ← ih]
    match X, h with
    | [], _ => rw [cmpA]
    | .ins d b :: X, _ => rw [cmpA]
    | .keep u :: X, _ => rw [cmpA]
/-- What is left where two steps meet. -/
def cm1 : At → At → List At
  | .ins _ _, .del => []
  | .ins c a, .keep v => [.ins c (apM a v)]
  | .keep _, .del => [.del]
  | .keep u, .keep v => [.keep (cpM u v)]
  | _, _ => []
theorem cmpA_keeps (X Y : List At) (u : List Attr) (b : At) (hb : NoI b) : ∀ n, cmpA (List.replicate n (.keep u) ++ X) (List.replicate n b ++ Y) = (List.replicate n (cm1 (.keep u) b)).flatten ++ cmpA X Y
  | 0 => rfl
  | n + 1 => by
    have ih := cmpA_keeps X Y u b hb n
    rw [List.replicate_succ, List.replicate_succ, List.replicate_succ, List.cons_append, List.cons_append, List.flatten_cons]
    cases b with
    | ins => exact hb.elim
    | del => rw [cmpA, ih]; rfl
    | keep v => rw [cmpA, ih]; rfl
theorem cmpA_inss (X Y : List At) (a : List Attr) (b : At) (hb : NoI b) : ∀ cs : List (List UInt8), cmpA (cs.map (fun c => .ins c a) ++ X) (List.replicate cs.length b ++ Y) = (cs.map fun c => cm1 (.ins c a) b).flatten ++ cmpA X Y
  | [] => rfl
  | c :: cs => by
    have ih := cmpA_inss X Y a b hb cs
    rw [List.length_cons, List.replicate_succ, List.map_cons, List.map_cons, List.cons_append, List.cons_append, List.flatten_cons]
    cases b with
    | ins => exact hb.elim
    | del => rw [cmpA, ih]; rfl
    | keep v => rw [cmpA, ih]; rfl
theorem cmpA_nilY (X : List At) : ∀ Y : List At, X = [] → cmpA X Y = Y
  | [], h => by subst h; simp only [cmpA]
  | .ins d b :: Y, h => by subst h; rw [cmpA, cmpA_nilY [] Y rfl]
  | .del :: Y, h => by subst h; rw [cmpA, cmpA_nilY [] Y rfl]
  | .keep v :: Y, h => by subst h; rw [cmpA, cmpA_nilY [] Y rfl]
theorem cmpA_nilX : ∀ X : List At, cmpA X [] = X
  | [] => by simp only [cmpA]
  | .ins d b :: X => by rw [cmpA, cmpA_nilX X]
  | .del :: X => by rw [cmpA, cmpA_nilX X]
  | .keep v :: X => by rw [cmpA, cmpA_nilX X]

/-! ### a round -/
theorem takeT_law {s : ByteArray} (h : validD s.data.toList = true) (n : Nat) : validD (takeT s n).data.toList = true ∧ chs (takeT s n).data.toList = (chs s.data.toList).take n := (chs_split n _ h).1
theorem dropT_law {s : ByteArray} (h : validD s.data.toList = true) (n : Nat) : validD (dropT s n).data.toList = true ∧ chs (dropT s n).data.toList = (chs s.data.toList).drop n := (chs_split n _ h).2
theorem Gd.unused {o : Op} (h : Gd o) : usedC o = false := by
  unfold usedC
  rcases h with ⟨_, _, _, t, _⟩ | ⟨_, n, _⟩ | ⟨_, n, _⟩
  · cases e : o.text.toList.isEmpty with
    | false => simp
    | true => rw [isEmp e] at t; exact absurd rfl t
  · rw [Bool.and_eq_false_iff]; left; simp; omega
  · rw [Bool.and_eq_false_iff]; left; simp; omega
theorem dropC_gds : ∀ {l : List Op}, Gds l → dropC l = l
  | [], _ => rfl
  | o :: l, h => by
    unfold dropC
    rw [(h o (.head _)).unused, if_neg (by simp)]
def ms2 (l : List Op) : Nat := (l.map fun o => (longC o).toNat).sum
theorem ms2_cons (o : Op) (l : List Op) : ms2 (o :: l) = (longC o).toNat + ms2 l := by simp [ms2]
theorem Gd.long {o : Op} (h : Gd o) : 0 < longC o := by
  unfold longC
  rcases h with ⟨k, _, _, t, _⟩ | ⟨k, n, _⟩ | ⟨k, n, _⟩
  · rw [if_pos k, count_chs]
    have : 0 < (chs o.text.data.toList).length := List.length_pos_iff.2 fun e => t (chs_eq_nil.1 e)
    omega
  · rw [if_neg (by omega)]; exact n
  · rw [if_neg (by omega)]; exact n
/-- n runes of the first operation; what is left. -/
theorem takeC_law {n : Int} {o : Op} {l : List Op} (hg : Gds (o :: l)) (h0 : 0 < n) (hn : n ≤ longC o) (hb : o.n ≤ 4611686018427387904) :
    Gd (takeC n (o :: l)).1 ∧ Gds (dropC (takeC n (o :: l)).2) ∧ ats (o :: l) = opAt (takeC n (o :: l)).1 ++ ats (dropC (takeC n (o :: l)).2) ∧ ms2 (dropC (takeC n (o :: l)).2) + n.toNat ≤ ms2 (o :: l) ∧
      (takeC n (o :: l)).1.kind = o.kind ∧ (takeC n (o :: l)).1.attrs = o.attrs ∧ (o.kind = 2 → (takeC n (o :: l)).1.n = 0 ∧ ((chs (takeC n (o :: l)).1.text.data.toList).length : Int) = n) ∧ (o.kind ≠ 2 → (takeC n (o :: l)).1.n = n ∧ (takeC n (o :: l)).1.text = ⟨#[]⟩) := by
  have ho := hg o (.head _)
  have hl := dropC_gds hg.tail
  by_cases k : o.kind = 2
  · rcases ho with ⟨_, n0, v, t, r⟩ | ⟨k2, _⟩ | ⟨k2, _⟩
    · obtain ⟨v1, c1⟩ := takeT_law v n.toNat
      obtain ⟨v2, c2⟩ := dropT_law v n.toNat
      have hlong : longC o = ((chs o.text.data.toList).length : Int) := by unfold longC; rw [if_pos k, count_chs]
      have e1 : (takeC n (o :: l)).1 = ⟨o.kind, o.n, takeT o.text n.toNat, o.attrs⟩ := by show (splitC o n).1 = _; unfold splitC; rw [if_pos k]
      have e2 : (takeC n (o :: l)).2 = ⟨o.kind, o.n, dropT o.text n.toNat, o.attrs⟩ :: l := by show (splitC o n).2 :: l = _; unfold splitC; rw [if_pos k]
      rw [e1, e2]
      have len1 : (chs (takeT o.text n.toNat).data.toList).length = n.toNat := by rw [c1, List.length_take]; omega
      have g1 : Gd ⟨o.kind, o.n, takeT o.text n.toNat, o.attrs⟩ := .inl ⟨k, n0, v1, fun e => by
        have : chs (takeT o.text n.toNat).data.toList = [] := chs_eq_nil.2 e
        rw [this] at len1
        simp at len1
        omega, r⟩
      have hats : opAt o = opAt ⟨o.kind, o.n, takeT o.text n.toNat, o.attrs⟩ ++ opAt ⟨o.kind, o.n, dropT o.text n.toNat, o.attrs⟩ := by
        rw [opAt2 k, opAt2 (o := ⟨o.kind, o.n, takeT o.text n.toNat, o.attrs⟩) k, opAt2 (o := ⟨o.kind, o.n, dropT o.text n.toNat, o.attrs⟩) k]
        dsimp only
        rw [c1, c2, ← List.map_append, List.take_append_drop]
      have hd2 : (chs (dropT o.text n.toNat).data.toList).length = (chs o.text.data.toList).length - n.toNat := by rw [c2, List.length_drop]
      refine ⟨g1, ?_, ?_, ?_, rfl, rfl, fun _ => ⟨n0, by dsimp only; rw [len1]; omega⟩, fun h => absurd k h⟩
      all_goals
        unfold dropC
        by_cases hz : (dropT o.text n.toNat).data.toList = []
        · have hu : usedC ⟨o.kind, o.n, dropT o.text n.toNat, o.attrs⟩ = true := by
            unfold usedC
            dsimp only
            rw [n0, ByteArray.toList_eq, hz]
            rfl
          rw [if_pos hu, hl]
          first
            | exact hg.tail
            | (rw [ats_cons, hats]
               have : opAt ⟨o.kind, o.n, dropT o.text n.toNat, o.attrs⟩ = [] := by rw [opAt2 (o := ⟨o.kind, o.n, dropT o.text n.toNat, o.attrs⟩) k]; dsimp only; rw [hz]; rfl
               rw [this, List.append_nil])
            | (rw [ms2_cons, hlong]; omega)
        · have g2 : Gd ⟨o.kind, o.n, dropT o.text n.toNat, o.attrs⟩ := .inl ⟨k, n0, v2, hz, r⟩
          rw [g2.unused, if_neg (by simp)]
          first
            | exact fun x hx => by
                cases hx with
                | head => exact g2
                | tail _ hx => exact hg.tail x hx
            | (rw [ats_cons, ats_cons, hats, List.append_assoc])
            | (rw [ms2_cons, ms2_cons, hlong]
               have : longC ⟨o.kind, o.n, dropT o.text n.toNat, o.attrs⟩ = ((chs (dropT o.text n.toNat).data.toList).length : Int) := by unfold longC; rw [if_pos k, count_chs]
               rw [this, hd2]
               omega)
    · omega
    · omega
  · have hlong : longC o = o.n := by unfold longC; rw [if_neg k]
    have e1 : (takeC n (o :: l)).1 = ⟨o.kind, n, o.text, o.attrs⟩ := by show (splitC o n).1 = _; unfold splitC; rw [if_neg k]
    have e2 : (takeC n (o :: l)).2 = ⟨o.kind, o.n - n, o.text, o.attrs⟩ :: l := by
      show (splitC o n).2 :: l = _
      unfold splitC; rw [if_neg k, w64 (by omega) (by omega)]
    rw [e1, e2]
    have ht : o.text = ⟨#[]⟩ := by
      rcases ho with ⟨k2, _⟩ | ⟨_, _, h, _⟩ | ⟨_, _, h, _⟩
      · exact absurd k2 k
      · exact h
      · exact h
    have gk : ∀ m : Int, 0 < m → Gd ⟨o.kind, m, o.text, o.attrs⟩ := fun m hm => by
      rcases ho with ⟨k2, _⟩ | ⟨k2, _, h3, h4⟩ | ⟨k2, _, h3, h4⟩
      · exact absurd k2 k
      · exact .inr (.inl ⟨k2, hm, h3, h4⟩)
      · exact .inr (.inr ⟨k2, hm, h3, h4⟩)
    have hats : opAt o = opAt ⟨o.kind, n, o.text, o.attrs⟩ ++ opAt ⟨o.kind, o.n - n, o.text, o.attrs⟩ := by
      rw [opAt_step k, opAt_step (o := ⟨o.kind, n, o.text, o.attrs⟩) k, opAt_step (o := ⟨o.kind, o.n - n, o.text, o.attrs⟩) k]
      rw [show stepO ⟨o.kind, n, o.text, o.attrs⟩ = stepO o from rfl, show stepO ⟨o.kind, o.n - n, o.text, o.attrs⟩ = stepO o from rfl, List.replicate_append_replicate]
      congr 1
      dsimp only
      omega
    refine ⟨gk n h0, ?_, ?_, ?_, rfl, rfl, fun h => absurd h k, fun _ => ⟨rfl, ht⟩⟩
    all_goals
      unfold dropC
      by_cases hz : o.n - n = 0
      · have hu : usedC ⟨o.kind, o.n - n, o.text, o.attrs⟩ = true := by
          unfold usedC
          dsimp only
          rw [hz, ht, ByteArray.toList_eq]
          rfl
        rw [if_pos hu, hl]
        first
          | exact hg.tail
          | (rw [ats_cons, hats]
             have : opAt ⟨o.kind, o.n - n, o.text, o.attrs⟩ = [] := by rw [opAt_step (o := ⟨o.kind, o.n - n, o.text, o.attrs⟩) k]; dsimp only; rw [hz]; rfl
             rw [this, List.append_nil])
          | (rw [ms2_cons, hlong]; omega)
      · have g2 := gk (o.n - n) (by omega)
        rw [g2.unused, if_neg (by simp)]
        first
          | exact fun x hx => by
              cases hx with
              | head => exact g2
              | tail _ hx => exact hg.tail x hx
          | (rw [ats_cons, ats_cons, hats, List.append_assoc])
          | (rw [ms2_cons, ms2_cons, hlong]
             have : longC ⟨o.kind, o.n - n, o.text, o.attrs⟩ = o.n - n := by unfold longC; rw [if_neg k]
             rw [this]
             omega)
end Go.Proofs.YtaemajcpgmaapaaDoor

namespace Go.Proofs.YtaemajcpgmaapaaDoor
open Go.RowKit
open Go.Lib

/-- What is left where two runs meet. -/
def mt (p q : Op) (n : Int) : List At :=
  if p.kind = 2 then ((chs p.text.data.toList).map fun c => cm1 (.ins c p.attrs) (stepO q)).flatten else (List.replicate n.toNat (cm1 (.keep p.attrs) (stepO q))).flatten
theorem flat_one {α β : Type} (f : α → β) : ∀ l : List α, (l.map fun x => [f x]).flatten = l.map f
  | [] => rfl
  | x :: l => by rw [List.map_cons, List.flatten_cons, flat_one f l]; rfl
theorem flat_none {α β : Type} : ∀ l : List α, (l.map fun _ => ([] : List β)).flatten = []
  | [] => rfl
  | x :: l => by rw [List.map_cons, List.flatten_cons, flat_none l]; rfl
theorem rep_one {β : Type} (s : β) : ∀ n, (List.replicate n [s]).flatten = List.replicate n s
  | 0 => rfl
  | n + 1 => by rw [List.replicate_succ, List.flatten_cons, rep_one s n]; rfl
theorem gd_bound {o : Op} (h : Gd o) (hb : need (opAt o) ≤ 4611686018427387904) : o.n ≤ 4611686018427387904 := by
  have := h.need
  omega
theorem mt_law {p q : Op} {n : Int} {X Y : List At} (kp : p.kind ≠ 3) (kq : q.kind ≠ 2) (np : p.kind ≠ 2 → p.n = n) (np2 : p.kind = 2 → ((chs p.text.data.toList).length : Int) = n) (nq : q.n = n) :
    cmpA (opAt p ++ X) (opAt q ++ Y) = mt p q n ++ cmpA X Y := by
  rw [opAt_step kq, nq]
  unfold mt
  by_cases k : p.kind = 2
  · rw [if_pos k, opAt2 k, show n.toNat = (chs p.text.data.toList).length by have := np2 k; omega]
    exact cmpA_inss X Y p.attrs (stepO q) (noI_step q) _
  · rw [if_neg k, opAt_step k, np k, show stepO p = .keep p.attrs by unfold stepO; rw [if_neg kp]]
    exact cmpA_keeps X Y p.attrs (stepO q) (noI_step q) _
/-- The end of a row stands for a keep of what it meets. -/
theorem mt_nilX {q : Op} {n : Int} {Y : List At} (hq : Gd q) (kq : q.kind ≠ 2) (nq : q.n = n) : cmpA [] (opAt q ++ Y) = mt ⟨1, n, ⟨#[]⟩, []⟩ q n ++ cmpA [] Y := by
  rw [cmpA_nilY _ _ rfl, cmpA_nilY _ _ rfl, opAt_step kq, nq]
  unfold mt
  rw [if_neg (show ¬ (1 : Int) = 2 by decide)]
  congr 1
  rcases hq with ⟨k, _⟩ | ⟨k, _⟩ | ⟨k, _, _, hc⟩
  · exact absurd k kq
  · rw [show stepO q = .del by unfold stepO; rw [if_pos k]]
    exact (rep_one _ _).symm
  · rw [show stepO q = .keep q.attrs by unfold stepO; rw [if_neg (by omega)]]
    show _ = (List.replicate n.toNat [At.keep (cpM [] q.attrs)]).flatten
    rw [nil_cpM _ (chErr_iff.1 hc).2.2, rep_one]
theorem mt_nilY {p : Op} {n : Int} {X : List At} (hp : Gd p) (kp : p.kind ≠ 3) (np : p.kind ≠ 2 → p.n = n) : cmpA (opAt p ++ X) [] = mt p ⟨1, n, ⟨#[]⟩, []⟩ n ++ cmpA X [] := by
  rw [cmpA_nilX, cmpA_nilX]
  unfold mt
  congr 1
  rcases hp with ⟨k, _, _, _, r⟩ | ⟨k, _⟩ | ⟨k, _, _, hc⟩
  · rw [if_pos k, opAt2 k]
    show _ = ((chs p.text.data.toList).map fun c => [At.ins c (apM p.attrs [])]).flatten
    rw [flat_one, apM_nil _ (chErr_iff.1 (rtErr_iff.1 r).1).2.2]
  · exact absurd k kp
  · rw [if_neg (by omega), opAt_step (by omega), np (by omega), show stepO p = .keep p.attrs by unfold stepO; rw [if_neg kp]]
    show _ = (List.replicate n.toNat [At.keep (cpM p.attrs [])]).flatten
    rw [cpM_nil _ (chErr_iff.1 hc).2.2, rep_one]
theorem meet_law {p q : Op} {n : Int} (hn : 0 < n) (hp : Gd p) (hq : Gd q) (kp : p.kind ≠ 3) (kq : q.kind ≠ 2) (np : p.kind ≠ 2 → p.n = n) (np2 : p.kind = 2 → ((chs p.text.data.toList).length : Int) = n) (nq : q.n = n) :
    (Sm (mt p q n) → ∃ L, meetC p q = (L, 0) ∧ Gds L ∧ ats L = mt p q n) ∧ (¬ Sm (mt p q n) → meetC p q = ([], 3)) := by
  unfold mt meetC
  rcases hq with ⟨k, _⟩ | ⟨k3, qn, qt, qa⟩ | ⟨k1, qn, qt, qc⟩
  · exact absurd k kq
  · have es : stepO q = .del := by unfold stepO; rw [if_pos k3]
    rw [es]
    by_cases k : p.kind = 2
    · rw [if_pos k, if_pos ⟨k3, k⟩]
      have e : ((chs p.text.data.toList).map fun c => cm1 (.ins c p.attrs) .del).flatten = [] := flat_none _
      rw [e]
      exact ⟨fun _ => ⟨[], rfl, fun _ h => (by cases h), rfl⟩, fun h => absurd (fun _ h => (by cases h)) h⟩
    · rw [if_neg k, if_neg (show ¬ (q.kind = 3 ∧ p.kind = 2) from fun h => k h.2), if_pos k3]
      have e : (List.replicate n.toNat (cm1 (.keep p.attrs) .del)).flatten = List.replicate n.toNat .del := rep_one _ _
      rw [e]
      refine ⟨fun _ => ⟨[q], rfl, fun x h => ?_, ?_⟩, fun h => absurd (fun s hs => by rw [List.eq_of_mem_replicate hs]; trivial) h⟩
      · simp at h; subst h; exact .inr (.inl ⟨k3, qn, qt, qa⟩)
      · rw [ats_one, opAt3 k3, nq]
  · have es : stepO q = .keep q.attrs := by unfold stepO; rw [if_neg (by omega)]
    have k3 : ¬ q.kind = 3 := by omega
    rw [es, if_neg (show ¬ (q.kind = 3 ∧ p.kind = 2) from fun h => k3 h.1), if_neg k3]
    rcases hp with ⟨k, pn, pv, pt, pr⟩ | ⟨k, _⟩ | ⟨k, pn, pt, pc⟩
    · rw [if_pos k, if_pos k]
      have e : ((chs p.text.data.toList).map fun c => cm1 (.ins c p.attrs) (.keep q.attrs)).flatten = (chs p.text.data.toList).map fun c => .ins c (apM p.attrs q.attrs) := flat_one _ _
      rw [e]
      have hpos : chs p.text.data.toList ≠ [] := fun h => by have := np2 k; rw [h] at this; simp at this; omega
      have ea : apErr p.attrs q.attrs = if (apM p.attrs q.attrs).length ≤ 8 then 0 else 3 := by unfold apErr; rw [if_pos ⟨pr, qc⟩]; rfl
      by_cases h8 : (apM p.attrs q.attrs).length ≤ 8
      · rw [if_pos h8] at ea
        have el : apL p.attrs q.attrs = apM p.attrs q.attrs := by unfold apL; rw [if_pos ea]; rfl
        rw [ea, if_pos rfl, el]
        refine ⟨fun _ => ⟨_, rfl, fun x h => ?_, ?_⟩, fun h => absurd (fun s hs => ?_) h⟩
        · simp at h; subst h; exact .inl ⟨k, pn, pv, pt, apM_rt pr qc h8⟩
        · rw [ats_one, opAt2 (o := ⟨p.kind, p.n, p.text, apM p.attrs q.attrs⟩) k]
        · obtain ⟨c, _, rfl⟩ := List.mem_map.1 hs
          exact h8
      · rw [if_neg h8] at ea
        rw [ea, if_neg (by decide)]
        refine ⟨fun h => ?_, fun _ => rfl⟩
        obtain ⟨c, l, hc⟩ := List.exists_cons_of_ne_nil hpos
        exact absurd (h (.ins c (apM p.attrs q.attrs)) (List.mem_map.2 ⟨c, by rw [hc]; exact .head _, rfl⟩)) h8
    · exact absurd k kp
    · have k2 : ¬ p.kind = 2 := by omega
      rw [if_neg k2, if_neg k2]
      have e : (List.replicate n.toNat (cm1 (.keep p.attrs) (.keep q.attrs))).flatten = List.replicate n.toNat (.keep (cpM p.attrs q.attrs)) := rep_one _ _
      rw [e]
      have ea : cpErr p.attrs q.attrs = if (cpM p.attrs q.attrs).length ≤ 8 then 0 else 3 := by unfold cpErr; rw [if_pos ⟨pc, qc⟩]; rfl
      by_cases h8 : (cpM p.attrs q.attrs).length ≤ 8
      · rw [if_pos h8] at ea
        have el : cpL p.attrs q.attrs = cpM p.attrs q.attrs := by unfold cpL; rw [if_pos ea]; rfl
        rw [ea, if_pos rfl, el]
        refine ⟨fun _ => ⟨_, rfl, fun x h => ?_, ?_⟩, fun h => absurd (fun s hs => ?_) h⟩
        · simp at h; subst h; exact .inr (.inr ⟨k, by dsimp only; rw [np k2]; exact hn, pt, cpM_ch pc qc h8⟩)
        · rw [ats_one, opAt1 (o := ⟨p.kind, p.n, p.text, cpM p.attrs q.attrs⟩) k]
          dsimp only
          rw [np k2]
        · rw [List.eq_of_mem_replicate hs]; exact h8
      · rw [if_neg h8] at ea
        rw [ea, if_neg (by decide)]
        refine ⟨fun h => ?_, fun _ => rfl⟩
        exact absurd (h (.keep (cpM p.attrs q.attrs)) (List.mem_replicate.2 ⟨by omega, rfl⟩)) h8
/-- What a round does. -/
theorem step_cmp {x y : List Op} (hx : Gds x) (hy : Gds y) (bx : need (ats x) ≤ 4611686018427387904) (by_ : need (ats y) ≤ 4611686018427387904) (h0 : ¬ (x.length = 0 ∧ y.length = 0)) :
    ∃ M, Gds (dropC (cmpStep x y).2.1) ∧ Gds (dropC (cmpStep x y).2.2) ∧ need (ats (dropC (cmpStep x y).2.1)) ≤ 4611686018427387904 ∧ need (ats (dropC (cmpStep x y).2.2)) ≤ 4611686018427387904 ∧
      ms2 (dropC (cmpStep x y).2.1) + ms2 (dropC (cmpStep x y).2.2) < ms2 x + ms2 y ∧ cmpA (ats x) (ats y) = M ++ cmpA (ats (dropC (cmpStep x y).2.1)) (ats (dropC (cmpStep x y).2.2)) ∧
      (Sm M → ∃ L, (cmpStep x y).1 = (L, 0) ∧ Gds L ∧ ats L = M) ∧ (¬ Sm M → (cmpStep x y).1 = ([], 3)) := by
  unfold cmpStep
  by_cases hd : (headC x).kind = 3
  · rw [if_pos hd]
    cases x with
    | nil => exact absurd hd (by decide)
    | cons o l =>
      change o.kind = 3 at hd
      have ho := hx o (.head _)
      have hb : o.n ≤ 4611686018427387904 := gd_bound ho (by rw [ats_cons, need_append] at bx; omega)
      have hl : longC o = o.n := by unfold longC; rw [if_neg (by omega)]
      have hpos := ho.long
      rw [hl] at hpos
      obtain ⟨g1, g2, e, m, tk, _, _, t3⟩ := takeC_law hx hpos (by omega) hb
      rw [show headC (o :: l) = o from rfl]
      dsimp only
      rw [dropC_gds hy]
      have hc := t3 (by omega)
      have eo : opAt (takeC o.n (o :: l)).1 = List.replicate o.n.toNat .del := by rw [opAt3 (tk.trans hd), hc.1]
      refine ⟨opAt (takeC o.n (o :: l)).1, g2, hy, ?_, by_, ?_, ?_, fun _ => ⟨_, rfl, fun z hz => ?_, ats_one _⟩, fun h => absurd (sm_opAt g1) h⟩
      · rw [e, need_append] at bx; omega
      · omega
      · rw [e, eo, cmpA_dels]
      · simp at hz; subst hz; exact g1
  · rw [if_neg hd]
    have hnd : NoD (ats x) := by
      cases x with
      | nil => trivial
      | cons o l =>
        change ¬ o.kind = 3 at hd
        rw [ats_cons]
        rcases hx o (.head _) with ⟨k, _, _, t, _⟩ | ⟨k, _⟩ | ⟨k, n, _⟩
        · rw [opAt2 k]
          obtain ⟨c, l', hc⟩ := List.exists_cons_of_ne_nil (fun e => t (chs_eq_nil.1 e) : chs o.text.data.toList ≠ [])
          rw [hc]
          trivial
        · exact absurd k hd
        · rw [opAt1 k]
          obtain ⟨m, hm⟩ : ∃ m, o.n.toNat = m + 1 := ⟨o.n.toNat - 1, by omega⟩
          rw [hm, List.replicate_succ]
          trivial
    by_cases hi : (headC y).kind = 2
    · rw [if_pos hi]
      cases y with
      | nil => exact absurd hi (by decide)
      | cons o l =>
        change o.kind = 2 at hi
        have ho := hy o (.head _)
        have hb : o.n ≤ 4611686018427387904 := gd_bound ho (by rw [ats_cons, need_append] at by_; omega)
        obtain ⟨g1, g2, e, m, tk, _, _, _⟩ := takeC_law hy ho.long (Int.le_refl _) hb
        have hpos := ho.long
        rw [show headC (o :: l) = o from rfl]
        dsimp only
        rw [dropC_gds hx]
        refine ⟨opAt (takeC (longC o) (o :: l)).1, hx, g2, bx, ?_, ?_, ?_, fun _ => ⟨_, rfl, fun z hz => ?_, ats_one _⟩, fun h => absurd (sm_opAt g1) h⟩
        · rw [e, need_append] at by_; omega
        · omega
        · rw [e, opAt2 (tk.trans hi), cmpA_insY _ _ _ hnd]
        · simp at hz; subst hz; exact g1
    · rw [if_neg hi]
      cases x with
      | nil =>
        cases y with
        | nil => exact absurd ⟨rfl, rfl⟩ h0
        | cons o l =>
          change ¬ o.kind = 2 at hi
          have ho := hy o (.head _)
          have hb : o.n ≤ 4611686018427387904 := gd_bound ho (by rw [ats_cons, need_append] at by_; omega)
          have hpos := ho.long
          have hmin : 0 < min (longC (headC [])) (longC (headC (o :: l))) ∧ min (longC (headC [])) (longC (headC (o :: l))) ≤ longC o := by
            show 0 < min (20001 : Int) (longC o) ∧ min (20001 : Int) (longC o) ≤ longC o
            omega
          generalize min (longC (headC [])) (longC (headC (o :: l))) = n at *
          obtain ⟨g1, g2, e, m, tk, ta, _, t3⟩ := takeC_law hy hmin.1 hmin.2 hb
          obtain ⟨tn, tt⟩ := t3 hi
          have hk2 : (takeC n (o :: l)).1.kind ≠ 2 := by rw [tk]; exact hi
          have er : rightC n (takeC n (o :: l)).1 = (takeC n (o :: l)).1 := by
            unfold rightC
            rw [if_pos hk2]
            generalize (takeC n (o :: l)).1 = t at *
            cases t
            simp only at tn
            rw [tn]
          have el : leftC n (takeC n []).1 = ⟨1, n, ⟨#[]⟩, []⟩ := rfl
          rw [er, el]
          dsimp only
          have ml := meet_law (p := ⟨1, n, ⟨#[]⟩, []⟩) (q := (takeC n (o :: l)).1) hmin.1 (.inr (.inr ⟨rfl, hmin.1, rfl, ch_nil⟩)) g1 (show (1 : Int) ≠ 3 by decide) hk2 (fun _ => rfl) (fun h => absurd h (show ¬ (1 : Int) = 2 by decide)) tn
          refine ⟨mt ⟨1, n, ⟨#[]⟩, []⟩ (takeC n (o :: l)).1 n, fun _ h => (by cases h), g2, by simp [takeC, dropC, ats, need], ?_, ?_, ?_, ml⟩
          · rw [e, need_append] at by_; omega
          · have : ms2 [] = 0 := rfl
            show ms2 [] + ms2 (dropC (takeC n (o :: l)).2) < _
            omega
          · skip
            rw [e, ats_nil, mt_nilX g1 hk2 tn]
            rfl
      | cons p l =>
        change ¬ p.kind = 3 at hd
        have hp := hx p (.head _)
        have hpb : p.n ≤ 4611686018427387904 := gd_bound hp (by rw [ats_cons, need_append] at bx; omega)
        have hpp := hp.long
        have left : ∀ n, 0 < n → n ≤ longC p → leftC n (takeC n (p :: l)).1 = (takeC n (p :: l)).1 ∧ Gd (takeC n (p :: l)).1 ∧ (takeC n (p :: l)).1.kind ≠ 3 ∧ ((takeC n (p :: l)).1.kind ≠ 2 → (takeC n (p :: l)).1.n = n) ∧
            ((takeC n (p :: l)).1.kind = 2 → ((chs (takeC n (p :: l)).1.text.data.toList).length : Int) = n) ∧ Gds (dropC (takeC n (p :: l)).2) ∧ ats (p :: l) = opAt (takeC n (p :: l)).1 ++ ats (dropC (takeC n (p :: l)).2) ∧ ms2 (dropC (takeC n (p :: l)).2) + n.toNat ≤ ms2 (p :: l) := by
          intro n n0 n1
          obtain ⟨g1, g2, e, m, tk, ta, t2, t3⟩ := takeC_law hx n0 n1 hpb
          refine ⟨?_, g1, by rw [tk]; exact hd, fun h => (t3 (by rw [tk] at h; exact h)).1, fun h => (t2 (by rw [tk] at h; exact h)).2, g2, e, m⟩
          unfold leftC
          by_cases k : (takeC n (p :: l)).1.kind = 1
          · rw [if_pos k]
            have tn := (t3 (by rw [← tk]; omega)).1
            generalize (takeC n (p :: l)).1 = t at *
            cases t
            simp only at tn
            rw [tn]
          · rw [if_neg k]
        cases y with
        | nil =>
          have hmin : 0 < min (longC (headC (p :: l))) (longC (headC [])) ∧ min (longC (headC (p :: l))) (longC (headC [])) ≤ longC p := by
            show 0 < min (longC p) (20001 : Int) ∧ min (longC p) (20001 : Int) ≤ longC p
            omega
          generalize min (longC (headC (p :: l))) (longC (headC [])) = n at *
          obtain ⟨el, g1, k3, n1, n2, g2, e, m⟩ := left n hmin.1 hmin.2
          have er : rightC n (takeC n []).1 = ⟨1, n, ⟨#[]⟩, []⟩ := rfl
          rw [er, el]
          dsimp only
          have ml := meet_law (p := (takeC n (p :: l)).1) (q := ⟨1, n, ⟨#[]⟩, []⟩) hmin.1 g1 (.inr (.inr ⟨rfl, hmin.1, rfl, ch_nil⟩)) k3 (show (1 : Int) ≠ 2 by decide) n1 n2 rfl
          refine ⟨mt (takeC n (p :: l)).1 ⟨1, n, ⟨#[]⟩, []⟩ n, g2, fun _ h => (by cases h), ?_, by simp [takeC, dropC, ats, need], ?_, ?_, ml⟩
          · rw [e, need_append] at bx; omega
          · have : ms2 [] = 0 := rfl
            show ms2 (dropC (takeC n (p :: l)).2) + ms2 [] < _
            omega
          · skip
            rw [e, ats_nil, mt_nilY g1 k3 n1]
            rfl
        | cons q l' =>
          change ¬ q.kind = 2 at hi
          have hq := hy q (.head _)
          have hqb : q.n ≤ 4611686018427387904 := gd_bound hq (by rw [ats_cons, need_append] at by_; omega)
          have hqp := hq.long
          have hmin : 0 < min (longC (headC (p :: l))) (longC (headC (q :: l'))) ∧ min (longC (headC (p :: l))) (longC (headC (q :: l'))) ≤ longC p ∧ min (longC (headC (p :: l))) (longC (headC (q :: l'))) ≤ longC q := by
            show 0 < min (longC p) (longC q) ∧ min (longC p) (longC q) ≤ longC p ∧ min (longC p) (longC q) ≤ longC q
            omega
          generalize min (longC (headC (p :: l))) (longC (headC (q :: l'))) = n at *
          obtain ⟨el, g1, k3, n1, n2, g2, e, m⟩ := left n hmin.1 hmin.2.1
          obtain ⟨g3, g4, e', m', tk, ta, _, t3⟩ := takeC_law hy hmin.1 hmin.2.2 hqb
          obtain ⟨tn, tt⟩ := t3 hi
          have hk2 : (takeC n (q :: l')).1.kind ≠ 2 := by rw [tk]; exact hi
          have er : rightC n (takeC n (q :: l')).1 = (takeC n (q :: l')).1 := by
            unfold rightC
            rw [if_pos hk2]
            generalize (takeC n (q :: l')).1 = t at *
            cases t
            simp only at tn
            rw [tn]
          rw [er, el]
          dsimp only
          have ml := meet_law hmin.1 g1 g3 k3 hk2 n1 n2 tn
          refine ⟨mt (takeC n (p :: l)).1 (takeC n (q :: l')).1 n, g2, g4, ?_, ?_, ?_, ?_, ml⟩
          · rw [e, need_append] at bx; omega
          · rw [e', need_append] at by_; omega
          · omega
          · skip
            rw [e, e', mt_law k3 hk2 n1 n2 tn]
theorem cmpGo_law : ∀ (k : Nat) (x y : List Op), Gds x → Gds y → need (ats x) ≤ 4611686018427387904 → need (ats y) ≤ 4611686018427387904 → ms2 x + ms2 y ≤ k →
    (Sm (cmpA (ats x) (ats y)) → (cmpGo k x y).2 = 0 ∧ Gds (cmpGo k x y).1 ∧ ats (cmpGo k x y).1 = cmpA (ats x) (ats y)) ∧ (¬ Sm (cmpA (ats x) (ats y)) → (cmpGo k x y).2 = 3)
  | 0, x, y, hx, hy, _, _, hk => by
    have hx0 : x = [] := by cases x with | nil => rfl | cons o x => rw [ms2_cons] at hk; have := (hx o (.head _)).long; omega
    have hy0 : y = [] := by cases y with | nil => rfl | cons o y => rw [ms2_cons] at hk; have := (hy o (.head _)).long; omega
    subst hx0 hy0
    refine ⟨fun _ => ⟨rfl, fun _ h => (by cases h), by simp [cmpGo, ats, cmpA]⟩, fun h => absurd (fun s hs => ?_) h⟩
    simp [ats, cmpA] at hs
  | k + 1, x, y, hx, hy, bx, by_, hk => by
    unfold cmpGo
    by_cases h0 : x.length = 0 ∧ y.length = 0
    · rw [if_pos h0]
      have hx0 := List.eq_nil_of_length_eq_zero h0.1
      have hy0 := List.eq_nil_of_length_eq_zero h0.2
      subst hx0 hy0
      refine ⟨fun _ => ⟨rfl, fun _ h => (by cases h), by simp [ats, cmpA]⟩, fun h => absurd (fun s hs => ?_) h⟩
      simp [ats, cmpA] at hs
    · rw [if_neg h0]
      obtain ⟨M, g1, g2, n1, n2, m, e, s1, s2⟩ := step_cmp hx hy bx by_ h0
      obtain ⟨i1, i2⟩ := cmpGo_law k _ _ g1 g2 n1 n2 (by omega)
      rw [e, Sm.append]
      by_cases hm : Sm M
      · obtain ⟨L, eL, gL, aL⟩ := s1 hm
        rw [eL, if_neg (by simp)]
        refine ⟨fun h => ?_, fun h => ?_⟩
        · obtain ⟨j1, j2, j3⟩ := i1 h.2
          exact ⟨j1, gL.append j2, by rw [ats_append, aL, j3]⟩
        · exact i2 fun h2 => h ⟨hm, h2⟩
      · rw [s2 hm, if_pos (by decide)]
        exact ⟨fun h => absurd h.1 hm, fun _ => rfl⟩
end Go.Proofs.YtaemajcpgmaapaaDoor

namespace Go.Proofs.YtaemajcpgmaapaaDoor
open Go.RowKit
open Go.Lib

def cmpOut (a b : Change) : List Op × Int := cmpGo (ms2 (normL a.ops) + ms2 (normL b.ops)) (normL a.ops) (normL b.ops)
/-- compose.Compose: the changeset, its error. -/
def cmpR (a b : Change) : Change × Int :=
  if (toR a).2 ≠ 0 then (⟨0, []⟩, (toR a).2)
  else if (toR b).2 ≠ 0 then (⟨0, []⟩, (toR b).2)
  else if (toR a).1 ≠ b.from_ then (⟨0, []⟩, 31)
  else if (cmpOut a b).2 ≠ 0 then (⟨0, []⟩, (cmpOut a b).2)
  else if 2000 < (normL (cmpOut a b).1).length then (⟨0, []⟩, 2)
  else (⟨a.from_, normL (cmpOut a b).1⟩, 0)
def cmpX (a b : Change) : List At := cmpA (ats (normL a.ops)) (ats (normL b.ops))

section
variable {a b : Change}
theorem cmp_room (ha : Rt a) (hb : Rt b) (hf : (toR a).1 = b.from_) (L : List Cell) (hL : CS L) (hl : (L.length : Int) = a.from_) : need (ats (normL a.ops)) ≤ L.length ∧ need (ats (normL b.ops)) ≤ (act L (ats (normL a.ops))).length := by
  have h1 := ha.long
  have h2 := hb.fits
  have h3 := ha.fits
  have l1 := act_len (ats a.ops) L (by omega)
  have l2 := act_len (ats a.ops) (gen a) ha.fit
  have l3 := gen_len a
  have := ha.lo
  rw [ha.nAct _ hL]
  exact ⟨by have := ha.nNeed; omega, by have := hb.nNeed; omega⟩
theorem cmpX_act (ha : Rt a) (hb : Rt b) (hf : (toR a).1 = b.from_) (L : List Cell) (hL : CS L) (hl : (L.length : Int) = a.from_) : act L (cmpX a b) = act (act L (ats a.ops)) (ats b.ops) := by
  obtain ⟨n1, n2⟩ := cmp_room ha hb hf L hL hl
  unfold cmpX
  rw [cmp_act _ _ _ (as_ats ha.nG) (as_ats hb.nG) hL n1 n2, ha.nAct _ hL, hb.nAct _ (act_cs _ _ (as_ats ha.gd) hL)]
theorem gen_long (ha : Rt a) : ((gen a).length : Int) = a.from_ := by rw [gen_len]; have := ha.lo; omega
theorem cmpX_need (ha : Rt a) (hb : Rt b) (hf : (toR a).1 = b.from_) : need (cmpX a b) ≤ (gen a).length := by
  obtain ⟨n1, n2⟩ := cmp_room ha hb hf _ (gen_cs a) (gen_long ha)
  exact cmp_need _ _ _ n1 n2
theorem cmp_go (ha : Rt a) (hb : Rt b) : (Sm (cmpX a b) → (cmpOut a b).2 = 0 ∧ Gds (cmpOut a b).1 ∧ ats (cmpOut a b).1 = cmpX a b) ∧ (¬ Sm (cmpX a b) → (cmpOut a b).2 = 3) :=
  cmpGo_law _ _ _ ha.nG hb.nG (by have := ha.nNeed; have := ha.small'; omega) (by have := hb.nNeed; have := hb.small'; omega) (Nat.le_refl _)
theorem cmp_sm (ha : Rt a) (hb : Rt b) (h : (cmpOut a b).2 = 0) : Sm (cmpX a b) := by
  by_cases hs : Sm (cmpX a b)
  · exact hs
  · rw [(cmp_go ha hb).2 hs] at h
    exact absurd h (by decide)
theorem cmpR_ok (h : (cmpR a b).2 = 0) : Rt a ∧ Rt b ∧ (toR a).1 = b.from_ ∧ cmpR a b = (⟨a.from_, normL (cmpOut a b).1⟩, 0) ∧ Gds (cmpOut a b).1 ∧ ats (cmpOut a b).1 = cmpX a b ∧ (normL (cmpOut a b).1).length ≤ 2000 := by
  unfold cmpR at h ⊢
  by_cases h1 : (toR a).2 = 0
  · rw [if_neg (by omega)] at h ⊢
    have ha := toR_rt h1
    by_cases h2 : (toR b).2 = 0
    · rw [if_neg (by omega)] at h ⊢
      have hb := toR_rt h2
      by_cases h3 : (toR a).1 = b.from_
      · rw [if_neg (by omega)] at h ⊢
        by_cases h4 : (cmpOut a b).2 = 0
        · rw [if_neg (by omega)] at h ⊢
          obtain ⟨_, g, e⟩ := (cmp_go ha hb).1 (cmp_sm ha hb h4)
          by_cases h5 : 2000 < (normL (cmpOut a b).1).length
          · rw [if_pos h5] at h; exact absurd h (by decide)
          · rw [if_neg h5]
            exact ⟨ha, hb, h3, rfl, g, e, by omega⟩
        · rw [if_pos h4] at h; exact absurd h h4
      · rw [if_pos h3] at h; exact absurd h (by decide)
    · rw [if_pos h2] at h; exact absurd h h2
  · rw [if_pos h1] at h; exact absurd h h1
theorem cmpR_of (ha : Rt a) (hb : Rt b) (hf : (toR a).1 = b.from_) (h : (cmpOut a b).2 = 0) (hl : (normL (cmpOut a b).1).length ≤ 2000) : cmpR a b = (⟨a.from_, normL (cmpOut a b).1⟩, 0) := by
  unfold cmpR
  rw [if_neg (by simp [toR_iff.2 ha]), if_neg (by simp [toR_iff.2 hb]), if_neg (by simp [hf]), if_neg (by simp [h]), if_neg (by omega)]
/-- Where both may be and fit, there is no word of lengths. -/
theorem cmpR_err (ha : Rt a) (hb : Rt b) (hf : (toR a).1 = b.from_) : (cmpR a b).2 = 0 ∨ (cmpR a b).2 = 2 ∨ (cmpR a b).2 = 3 := by
  unfold cmpR
  rw [if_neg (by simp [toR_iff.2 ha]), if_neg (by simp [toR_iff.2 hb]), if_neg (by simp [hf])]
  by_cases hs : Sm (cmpX a b)
  · rw [if_neg (by simp [((cmp_go ha hb).1 hs).1])]
    split
    · exact .inr (.inl rfl)
    · exact .inl rfl
  · rw [if_pos (by rw [(cmp_go ha hb).2 hs]; decide)]
    exact .inr (.inr ((cmp_go ha hb).2 hs))
theorem cmpR_gone (h : (cmpR a b).2 ≠ 0) : (cmpR a b).1 = ⟨0, []⟩ := by
  unfold cmpR at h ⊢
  split
  · rfl
  · split
    · rfl
    · split
      · rfl
      · split
        · rfl
        · split
          · rfl
          · next h1 h2 h3 h4 h5 =>
            rw [if_neg h1, if_neg h2, if_neg h3, if_neg h4, if_neg h5] at h
            exact absurd rfl h
/-- What is composed may be, in its normal form; it does what both do. -/
theorem cmp_fits (h : (cmpR a b).2 = 0) : Rt (cmpR a b).1 ∧ (cmpR a b).1.from_ = a.from_ ∧ normL (cmpR a b).1.ops = (cmpR a b).1.ops ∧ ∀ L, CS L → (L.length : Int) = a.from_ → act L (ats (cmpR a b).1.ops) = act (act L (ats a.ops)) (ats b.ops) := by
  obtain ⟨ha, hb, hf, e, g, ea, hl⟩ := cmpR_ok h
  have hn := cmpX_need ha hb hf
  rw [← ea] at hn
  have hg := gen_len a
  have hhi := ha.hi
  have hlo := ha.lo
  have hsm : need (ats (cmpOut a b).1) ≤ 4611686018427387904 := by omega
  have hall : ∀ L, CS L → (L.length : Int) = a.from_ → act L (ats (normL (cmpOut a b).1)) = act (act L (ats a.ops)) (ats b.ops) := fun L hL hl => by
    rw [act_normL g hsm L hL, ea, cmpX_act ha hb hf L hL hl]
  have hact := hall _ (gen_cs a) (gen_long ha)
  rw [e]
  refine ⟨?_, rfl, normL_idem g hsm, hall⟩
  refine rt_of ha.lo ha.hi hl (normL_law g hsm).1 (by have := need_normL g hsm; omega) ?_
  have e1 : ((act (act (gen a) (ats a.ops)) (ats b.ops)).length : Int) ≤ 20000 := by
    have l1 := ha.long
    have l2 := act_len (ats b.ops) (act (gen a) (ats a.ops)) (by have := hb.fits; omega)
    have l3 := hb.long
    have l4 := act_len (ats b.ops) (gen b) hb.fit
    have l5 := gen_len b
    have l6 : (toR b).1 ≤ 20000 := by rw [hb.to]; exact hb.big
    have := hb.lo
    omega
  show ((act (genFrom 0 a.from_.toNat) (ats (normL (cmpOut a b).1))).length : Int) ≤ 20000
  have h2 : act (genFrom 0 a.from_.toNat) (ats (normL (cmpOut a b).1)) = act (gen a) (ats (normL (cmpOut a b).1)) := rfl
  rw [h2, hact]
  exact e1
/-- It ends as the last one. -/
theorem cmp_to (h : (cmpR a b).2 = 0) : toR (cmpR a b).1 = ((toR b).1, 0) := by
  obtain ⟨ha, hb, hf, _⟩ := cmpR_ok h
  obtain ⟨r, f, _, e⟩ := cmp_fits h
  have l0 := r.long
  have g0 : gen (cmpR a b).1 = gen a := by unfold gen; rw [f]
  rw [g0, e _ (gen_cs a) (gen_long ha)] at l0
  have l1 := ha.long
  have l2 := act_len (ats b.ops) (act (gen a) (ats a.ops)) (by have := hb.fits; omega)
  have l3 := hb.long
  have l4 := act_len (ats b.ops) (gen b) hb.fit
  have l5 := gen_len b
  have := hb.lo
  refine Prod.ext (by show (toR (cmpR a b).1).1 = (toR b).1; omega) (toR_iff.2 r)
theorem cmp_is (h : (cmpR a b).2 = 0) : nmR (cmpR a b).1 = ((cmpR a b).1, 0) := by
  obtain ⟨r, _, hn, _⟩ := cmp_fits h
  rw [r.nm, hn]
end
/-- Normal forms that do the same are the same. -/
theorem same_of {p q : Change} (hp : Rt p) (hq : Rt q) (hf : p.from_ = q.from_) (np : normL p.ops = p.ops) (nq : normL q.ops = q.ops) (h : act (gen p) (ats p.ops) = act (gen p) (ats q.ops)) : p = q := by
  have e : p.ops = q.ops := by
    rw [← np, ← nq]
    exact normL_congr (n := p.from_.toNat) hp.gd hq.gd (by have := hp.fits; have := hp.lo; omega) (by have := hq.fits; have := hq.lo; omega) (by have := hp.hi; omega) h
  cases p
  cases q
  simp only at hf e
  rw [hf, e]
theorem normL_ats {x y : List Op} (hx : Gds x) (hy : Gds y) (bx : need (ats x) ≤ 4611686018427387904) (h : ats x = ats y) : normL x = normL y := by
  rw [(normL_law hx bx).2.2.2, (normL_law hy (h ▸ bx)).2.2.2, h]
theorem cmp_none {a : Change} (h : Rt a) : cmpR ⟨a.from_, []⟩ a = (⟨a.from_, normL a.ops⟩, 0) := by
  have hn := rt_none h.lo h.hi
  have t0 : (toR ⟨a.from_, []⟩).1 = a.from_ := by rw [hn.to]; simp [ats, insC, delC]
  have hx : cmpX ⟨a.from_, []⟩ a = ats (normL a.ops) := by unfold cmpX; rw [show normL (⟨a.from_, []⟩ : Change).ops = [] from rfl, ats_nil, cmpA_nilY _ _ rfl]
  have hs : Sm (cmpX ⟨a.from_, []⟩ a) := by rw [hx]; exact sm_ats h.nG
  obtain ⟨g1, g2, g3⟩ := (cmp_go hn h).1 hs
  have hb : need (ats (cmpOut ⟨a.from_, []⟩ a).1) ≤ 4611686018427387904 := by rw [g3, hx]; have := h.nNeed; have := h.small'; omega
  have e : normL (cmpOut ⟨a.from_, []⟩ a).1 = normL a.ops := by
    rw [normL_ats g2 h.nG hb (g3.trans hx), normL_idem h.gd h.small']
  rw [cmpR_of hn h t0 g1 (by rw [e]; exact h.nLen), e]
theorem cmp_noneR {a : Change} (h : Rt a) : cmpR a ⟨(toR a).1, []⟩ = (⟨a.from_, normL a.ops⟩, 0) := by
  have hn := rt_none (n := (toR a).1) (by have := h.long; omega) (by rw [h.to]; exact h.big)
  have hx : cmpX a ⟨(toR a).1, []⟩ = ats (normL a.ops) := by unfold cmpX; rw [show normL (⟨(toR a).1, []⟩ : Change).ops = [] from rfl, ats_nil, cmpA_nilX]
  have hs : Sm (cmpX a ⟨(toR a).1, []⟩) := by rw [hx]; exact sm_ats h.nG
  obtain ⟨g1, g2, g3⟩ := (cmp_go h hn).1 hs
  have hb : need (ats (cmpOut a ⟨(toR a).1, []⟩).1) ≤ 4611686018427387904 := by rw [g3, hx]; have := h.nNeed; have := h.small'; omega
  have e : normL (cmpOut a ⟨(toR a).1, []⟩).1 = normL a.ops := by
    rw [normL_ats g2 h.nG hb (g3.trans hx), normL_idem h.gd h.small']
  rw [cmpR_of h hn rfl g1 (by rw [e]; exact h.nLen), e]
theorem toR_norm {a : Change} (h : Rt a) : toR ⟨a.from_, normL a.ops⟩ = toR a := by
  have r := h.norm
  have l1 := r.long
  have l2 := h.long
  have g : gen ⟨a.from_, normL a.ops⟩ = gen a := rfl
  rw [g] at l1
  change ((act (gen a) (ats (normL a.ops))).length : Int) = _ at l1
  rw [h.nAct _ (gen_cs a)] at l1
  exact Prod.ext (by omega) ((toR_iff.2 r).trans (toR_iff.2 h).symm)
/-- The normal form composes as it does. -/
theorem cmp_norm {a : Change} (h : Rt a) (b : Change) : cmpR ⟨a.from_, normL a.ops⟩ b = cmpR a b := by
  have e : cmpOut ⟨a.from_, normL a.ops⟩ b = cmpOut a b := by
    unfold cmpOut
    dsimp only
    rw [normL_idem h.gd h.small']
  unfold cmpR
  rw [toR_norm h, e]
/-- ComposeThree. -/
theorem cmp_three {a b c : Change} (h1 : (cmpR a b).2 = 0) (h2 : (cmpR b c).2 = 0) :
    (cmpR (cmpR a b).1 c).2 ≠ 31 ∧ (cmpR a (cmpR b c).1).2 ≠ 31 ∧ ((cmpR (cmpR a b).1 c).2 = 0 → (cmpR a (cmpR b c).1).2 = 0 → (cmpR (cmpR a b).1 c).1 = (cmpR a (cmpR b c).1).1) := by
  obtain ⟨ha, hb, hf, _⟩ := cmpR_ok h1
  obtain ⟨_, hc, hg, _⟩ := cmpR_ok h2
  obtain ⟨r1, f1, n1, a1⟩ := cmp_fits h1
  obtain ⟨r2, f2, n2, a2⟩ := cmp_fits h2
  have t1 : (toR (cmpR a b).1).1 = c.from_ := by rw [cmp_to h1]; exact hg
  have t2 : (toR a).1 = (cmpR b c).1.from_ := by rw [f2]; exact hf
  refine ⟨?_, ?_, fun h3 h4 => ?_⟩
  · rcases cmpR_err r1 hc t1 with h | h | h <;> rw [h] <;> decide
  · rcases cmpR_err ha r2 t2 with h | h | h <;> rw [h] <;> decide
  · obtain ⟨r3, f3, n3, a3⟩ := cmp_fits h3
    obtain ⟨r4, f4, n4, a4⟩ := cmp_fits h4
    refine same_of r3 r4 (by rw [f3, f1, f4]) n3 n4 ?_
    have g3 : gen (cmpR (cmpR a b).1 c).1 = gen a := by unfold gen; rw [f3, f1]
    have hl := gen_long ha
    have hcs : CS (act (gen a) (ats a.ops)) := act_cs _ _ (as_ats ha.gd) (gen_cs a)
    rw [g3, a3 _ (gen_cs a) (by rw [f1]; exact hl), a1 _ (gen_cs a) hl, a4 _ (gen_cs a) hl, a2 _ hcs (by rw [ha.long]; exact hf)]
/-- FollowMeets. -/
theorem fol_meet {first : Bool} {a b : Change} (h : (folR first a b).2 = 0) (k : (folR (!first) b a).2 = 0) :
    (cmpR a (folR first a b).1).2 ≠ 31 ∧ (cmpR b (folR (!first) b a).1).2 ≠ 31 ∧ ((cmpR a (folR first a b).1).2 = 0 → (cmpR b (folR (!first) b a).1).2 = 0 → (cmpR a (folR first a b).1).1 = (cmpR b (folR (!first) b a).1).1) := by
  obtain ⟨r1, f1, _, e1⟩ := fol_fits h
  obtain ⟨r2, f2, _, e2⟩ := fol_fits k
  obtain ⟨ha, hb, hf, _⟩ := folR_ok h
  refine ⟨?_, ?_, fun h3 h4 => ?_⟩
  · rcases cmpR_err ha r1 f1.symm with h | h | h <;> rw [h] <;> decide
  · rcases cmpR_err hb r2 f2.symm with h | h | h <;> rw [h] <;> decide
  · obtain ⟨r3, f3, n3, a3⟩ := cmp_fits h3
    obtain ⟨r4, f4, n4, a4⟩ := cmp_fits h4
    refine same_of r3 r4 (by rw [f3, f4, hf]) n3 n4 ?_
    have g3 : gen (cmpR a (folR first a b).1).1 = gen a := by unfold gen; rw [f3]
    have g : gen a = gen b := by unfold gen; rw [hf]
    have hm := fol_meets first (ats (normL a.ops)) (ats (normL b.ops)) (gen a) (as_ats ha.nG) (as_ats hb.nG) (gen_cs a) (by have := ha.nNeed; have := ha.fit; omega) (by have := hb.nNeed; have := hb.fit; rw [g]; omega)
    rw [g3, a3 _ (gen_cs a) (gen_long ha), e1, hm, a4 _ (gen_cs a) (by rw [gen_long ha, hf]), g, e2]
end Go.Proofs.YtaemajcpgmaapaaDoor

namespace Go.Proofs.YtaemajcpgmaapaaDoor
open Go.RowKit
open Go.Lib

/-- How many bytes the first runes take. -/
def atT (s : ByteArray) (k : Nat) : Nat := ((chs s.data.toList).take k).flatten.length
theorem chs_at : ∀ (k : Nat) (l : List UInt8), l.take (((chs l).take k).flatten.length) = ((chs l).take k).flatten ∧ l.drop (((chs l).take k).flatten.length) = ((chs l).drop k).flatten ∧ chs (l.drop (((chs l).take k).flatten.length)) = (chs l).drop k
  | 0, l => by simp [chs_flatten]
  | k + 1, l => by
    by_cases h : l = []
    · subst h
      simp [chs_nil]
    · have e := chs_step l h
      obtain ⟨i1, i2, i3⟩ := chs_at k (l.drop (decodeL l).2)
      have hw := decodeL_width l
      have hl : 0 < l.length := List.length_pos_iff.2 h
      have hlen : (l.take (decodeL l).2).length = (decodeL l).2 := by rw [List.length_take]; have := decodeL_le l h; omega
      rw [e, List.take_succ_cons, List.flatten_cons, List.length_append, hlen, List.drop_succ_cons]
      refine ⟨?_, ?_, ?_⟩
      · rw [List.take_add, i1]
      · rw [← List.drop_drop, i2]
      · rw [← List.drop_drop, i3]
theorem atT_le (s : ByteArray) (k : Nat) : atT s k ≤ s.size := by
  unfold atT
  have h := congrArg List.length (chs_flatten s.data.toList)
  rw [← List.take_append_drop k (chs s.data.toList), List.flatten_append, List.length_append] at h
  have : s.data.toList.length = s.size := Array.length_toList
  omega
theorem extract_list (s : ByteArray) (a b : Nat) : (s.extract a b).data.toList = (s.data.toList.take b).drop a := by
  rw [ByteArray.data_extract, Array.toList_extract, List.extract_eq_take_drop, List.drop_take]
theorem ba_ext {s t : ByteArray} (h : s.data.toList = t.data.toList) : s = t := by
  cases s; cases t
  congr 1
  exact Array.toList_inj.1 h
theorem full_list (s : ByteArray) : s.data.toList.take s.size = s.data.toList := List.take_of_length_le (by rw [show s.data.toList.length = s.size from Array.length_toList]; exact Nat.le_refl _)
theorem takeT_eq (s : ByteArray) (k : Nat) : s.extract 0 (atT s k) = takeT s k := by
  refine ba_ext ?_
  rw [extract_list, List.drop_zero]
  exact (chs_at k s.data.toList).1
theorem dropT_eq (s : ByteArray) (k : Nat) : s.extract (atT s k) s.size = dropT s k := by
  refine ba_ext ?_
  rw [extract_list, full_list]
  exact (chs_at k s.data.toList).2.1
theorem atT_zero (s : ByteArray) : atT s 0 = 0 := by simp [atT]
theorem decodeGo_list (s : ByteArray) (h : s.data.toList ≠ []) : (decodeGo s).2 = (decodeL s.data.toList).2 := by
  have h0 : s.size ≠ 0 := fun e => h (List.eq_nil_of_length_eq_zero (by rw [show s.data.toList.length = s.size from Array.length_toList]; exact e))
  unfold decodeGo decodeL
  rw [if_neg h0]
theorem decodeGo_none (s : ByteArray) (h : s.data.toList = []) : (decodeGo s).2 = 0 := by
  have h0 : s.size = 0 := by rw [← show s.data.toList.length = s.size from Array.length_toList, h]; rfl
  unfold decodeGo
  rw [if_pos h0]
theorem atT_succ (s : ByteArray) (k : Nat) : atT s k + (decodeGo (s.extract (atT s k) s.size)).2 = atT s (k + 1) := by
  obtain ⟨i1, i2, i3⟩ := chs_at k s.data.toList
  have e : (s.extract (atT s k) s.size).data.toList = s.data.toList.drop (atT s k) := by rw [extract_list, full_list]
  change chs (s.data.toList.drop (atT s k)) = _ at i3
  by_cases h : s.data.toList.drop (atT s k) = []
  · rw [decodeGo_none _ (e.trans h)]
    rw [h, chs_nil] at i3
    have hl : (chs s.data.toList).length ≤ k := by
      have := congrArg List.length i3
      rw [List.length_drop] at this
      simp at this
      omega
    unfold atT
    rw [List.take_of_length_le hl, List.take_of_length_le (by omega)]
    rfl
  · rw [decodeGo_list _ (by rw [e]; exact h), e]
    have hs := chs_step _ h
    rw [i3] at hs
    have hk : k < (chs s.data.toList).length := by
      have := congrArg List.length hs
      rw [List.length_drop, List.length_cons] at this
      omega
    have hc : (chs s.data.toList)[k] = (s.data.toList.drop (atT s k)).take (decodeL (s.data.toList.drop (atT s k))).2 := by
      rw [List.drop_eq_getElem_cons hk] at hs
      exact (List.cons.inj hs).1
    have hlen : (chs s.data.toList)[k].length = (decodeL (s.data.toList.drop (atT s k))).2 := by
      rw [hc, List.length_take]
      have := decodeL_le _ h
      omega
    show _ = (((chs s.data.toList).take (k + 1)).flatten).length
    rw [List.take_succ_eq_append_getElem hk, List.flatten_append, List.length_append, List.flatten_singleton, hlen]
    rfl
end Go.Proofs.YtaemajcpgmaapaaDoor

namespace Go.Proofs.YtaemajcpgmaapaaDoor
open Go.RowKit
open Go.Lib

/-- No text is longer than a text may be. -/
def Ty (l : List Op) : Prop := ∀ y ∈ l, y.text.size ≤ 80000
theorem Ty.tail {o : Op} {l : List Op} (h : Ty (o :: l)) : Ty l := fun y hy => h y (.tail _ hy)
theorem Ty.head {o : Op} {l : List Op} (h : Ty (o :: l)) : o.text.size ≤ 80000 := h o (.head _)
theorem toList_size (s : ByteArray) : s.data.toList.length = s.size := Array.length_toList
theorem takeT_size (s : ByteArray) (n : Nat) : (takeT s n).size ≤ s.size := by
  have e : (takeT s n).size = ((chs s.data.toList).take n).flatten.length := by rw [← toList_size]; rfl
  have h : ((chs s.data.toList).take n).flatten.length + ((chs s.data.toList).drop n).flatten.length = s.size := by
    rw [← List.length_append, ← List.flatten_append, List.take_append_drop, chs_flatten, toList_size]
  omega
theorem dropT_size (s : ByteArray) (n : Nat) : (dropT s n).size ≤ s.size := by
  have e : (dropT s n).size = ((chs s.data.toList).drop n).flatten.length := by rw [← toList_size]; rfl
  have h : ((chs s.data.toList).take n).flatten.length + ((chs s.data.toList).drop n).flatten.length = s.size := by
    rw [← List.length_append, ← List.flatten_append, List.take_append_drop, chs_flatten, toList_size]
  omega
theorem splitC_size (o : Op) (n : Int) : (splitC o n).1.text.size ≤ o.text.size ∧ (splitC o n).2.text.size ≤ o.text.size := by
  unfold splitC
  split
  · exact ⟨takeT_size _ _, dropT_size _ _⟩
  · exact ⟨Nat.le_refl _, Nat.le_refl _⟩
theorem splitC_attrs (o : Op) (n : Int) : (splitC o n).1.attrs = o.attrs ∧ (splitC o n).2.attrs = o.attrs := by
  unfold splitC
  split <;> exact ⟨rfl, rfl⟩
theorem Ty.take {l : List Op} (h : Ty l) (n : Int) : (takeC n l).1.text.size ≤ 80000 ∧ Ty (takeC n l).2 := by
  cases l with
  | nil => exact ⟨by show (0 : Nat) ≤ _; omega, fun _ h => by cases h⟩
  | cons o l =>
    obtain ⟨s1, s2⟩ := splitC_size o n
    have ho := h.head
    refine ⟨Nat.le_trans s1 ho, fun y hy => ?_⟩
    rcases List.mem_cons.1 hy with rfl | hy
    · exact Nat.le_trans s2 ho
    · exact h.tail y hy
theorem Ty.drop : ∀ {l : List Op}, Ty l → Ty (dropC l)
  | [], h => h
  | o :: l, h => by
    unfold dropC
    split
    · exact Ty.drop h.tail
    · exact h
theorem headC_text {l : List Op} (h : Ty l) : (headC l).text.size ≤ 80000 := by
  cases l with
  | nil => show (0 : Nat) ≤ _; omega
  | cons o l => exact h.head
theorem longC_bd {l : List Op} (h : Ty l) (hg : Gds l) (hn : need (ats l) ≤ 4611686018427387904) : longC (headC l) ≤ 4611686018427387904 := by
  cases l with
  | nil => show (20001 : Int) ≤ _; omega
  | cons o l =>
    show longC o ≤ _
    unfold longC
    split
    · have h1 := runeCount_le o.text
      have := h.head
      omega
    · exact gd_bound (hg o (.head _)) (by rw [ats_cons, need_append] at hn; omega)
theorem headN_bd {l : List Op} (hg : Gds l) (hn : need (ats l) ≤ 4611686018427387904) : (headC l).n ≤ 4611686018427387904 := by
  cases l with
  | nil => show (20001 : Int) ≤ _; omega
  | cons o l =>
    show o.n ≤ _
    exact gd_bound (hg o (.head _)) (by rw [ats_cons, need_append] at hn; omega)
theorem meetC_len (p q : Op) : (meetC p q).1.length ≤ 1 ∧ ∀ o ∈ (meetC p q).1, o.text.size ≤ p.text.size ∨ o = q := by
  unfold meetC
  split
  · exact ⟨by simp, fun _ h => by cases h⟩
  · split
    · exact ⟨by simp, fun o h => by simp at h; exact .inr h⟩
    · split
      · dsimp only
        split
        · exact ⟨by simp, fun o h => by simp at h; subst h; exact .inl (Nat.le_refl _)⟩
        · exact ⟨by simp, fun _ h => by cases h⟩
      · dsimp only
        split
        · exact ⟨by simp, fun o h => by simp at h; subst h; exact .inl (Nat.le_refl _)⟩
        · exact ⟨by simp, fun _ h => by cases h⟩
theorem leftC_text (n : Int) (o : Op) : (leftC n o).text = o.text ∧ (leftC n o).attrs = o.attrs ∧ (leftC n o).kind = o.kind := by
  unfold leftC
  split <;> exact ⟨rfl, rfl, rfl⟩
theorem rightC_text (n : Int) (o : Op) : (rightC n o).text = o.text ∧ (rightC n o).attrs = o.attrs ∧ (rightC n o).kind = o.kind := by
  unfold rightC
  split <;> exact ⟨rfl, rfl, rfl⟩
theorem cmpStep_len {X Y : List Op} (hx : Ty X) (hy : Ty Y) : (cmpStep X Y).1.1.length ≤ 1 ∧ (∀ o ∈ (cmpStep X Y).1.1, o.text.size ≤ 80000) ∧ Ty (cmpStep X Y).2.1 ∧ Ty (cmpStep X Y).2.2 := by
  unfold cmpStep
  split
  · have h := hx.take (headC X).n
    exact ⟨by simp, fun o ho => by simp at ho; subst ho; exact h.1, h.2, hy⟩
  · split
    · have h := hy.take (longC (headC Y))
      exact ⟨by simp, fun o ho => by simp at ho; subst ho; exact h.1, hx, h.2⟩
    · have h1 := hx.take (min (longC (headC X)) (longC (headC Y)))
      have h2 := hy.take (min (longC (headC X)) (longC (headC Y)))
      have hm := meetC_len (leftC (min (longC (headC X)) (longC (headC Y))) (takeC (min (longC (headC X)) (longC (headC Y))) X).1) (rightC (min (longC (headC X)) (longC (headC Y))) (takeC (min (longC (headC X)) (longC (headC Y))) Y).1)
      refine ⟨hm.1, fun o ho => ?_, h1.2, h2.2⟩
      rcases hm.2 o ho with h | h
      · rw [(leftC_text _ _).1] at h; exact Nat.le_trans h h1.1
      · rw [h, (rightC_text _ _).1]; exact h2.1

/-- Between two rounds: out is written, X and Y are left. -/
structure CRel (F : List Op × Int) (K0 : Nat) (X Y : List Op) (s : List Op × Int) (k : Nat) : Prop where
  m : ms2 X + ms2 Y ≤ k
  gx : Gds X
  gy : Gds Y
  nx : need (ats X) ≤ 4611686018427387904
  ny : need (ats Y) ≤ 4611686018427387904
  tx : Ty X
  ty : Ty Y
  o : ∃ out, s = out.foldl nStep ([], 0) ∧ F = (out ++ (cmpGo k X Y).1, (cmpGo k X Y).2) ∧ out.length + k ≤ K0 ∧ NB out.length s
section
variable {F : List Op × Int} {K0 : Nat} {X Y : List Op} {s : List Op × Int} {k : Nat}
theorem CRel.bd (h : CRel F K0 X Y s k) : s.1.length ≤ 2 * K0 ∧ ∀ x ∈ s.1, x.text.size ≤ K0 * 80000 := by
  obtain ⟨out, _, _, h2, h3⟩ := h.o
  exact ⟨by have := h3.1; omega, fun x hx => Nat.le_trans (h3.2 x hx) (Nat.mul_le_mul_right _ (by omega))⟩
theorem CRel.pos (h : CRel F K0 X Y s k) (hne : ¬ (X.length = 0 ∧ Y.length = 0)) : ∃ j, k = j + 1 := by
  have := h.m
  cases X with
  | cons x X => rw [ms2_cons] at this; have := (h.gx x (.head _)).long; exact ⟨k - 1, by omega⟩
  | nil =>
    cases Y with
    | cons y Y => rw [ms2_cons] at this; have := (h.gy y (.head _)).long; exact ⟨k - 1, by omega⟩
    | nil => exact absurd ⟨rfl, rfl⟩ hne
theorem CRel.fin (h : CRel F K0 [] [] s k) : s = F.1.foldl nStep ([], 0) ∧ F.2 = 0 := by
  obtain ⟨out, h1, h3, _⟩ := h.o
  have e : cmpGo k [] [] = ([], 0) := by cases k <;> simp [cmpGo]
  rw [e, List.append_nil] at h3
  subst h3
  exact ⟨h1, rfl⟩
theorem CRel.step (h : CRel F K0 X Y s (k + 1)) (hne : ¬ (X.length = 0 ∧ Y.length = 0)) :
    ((cmpStep X Y).1.2 ≠ 0 → F.2 = (cmpStep X Y).1.2) ∧ ((cmpStep X Y).1.2 = 0 → CRel F K0 (dropC (cmpStep X Y).2.1) (dropC (cmpStep X Y).2.2) ((cmpStep X Y).1.1.foldl nStep s) k) := by
  obtain ⟨out, h1, h2, h3, h4⟩ := h.o
  have hm := h.m
  obtain ⟨M, g1, g2, n1, n2, m, _⟩ := step_cmp h.gx h.gy h.nx h.ny hne
  obtain ⟨l1, l2, t1, t2⟩ := cmpStep_len h.tx h.ty
  have eg : cmpGo (k + 1) X Y = if (cmpStep X Y).1.2 ≠ 0 then ([], (cmpStep X Y).1.2)
      else ((cmpStep X Y).1.1 ++ (cmpGo k (dropC (cmpStep X Y).2.1) (dropC (cmpStep X Y).2.2)).1, (cmpGo k (dropC (cmpStep X Y).2.1) (dropC (cmpStep X Y).2.2)).2) := by
    rw [cmpGo, if_neg hne]
  refine ⟨fun he => ?_, fun he => ?_⟩
  · rw [h2, eg, if_pos he]
  · rw [eg, if_neg (by simp [he])] at h2
    refine ⟨by omega, g1, g2, n1, n2, t1.drop, t2.drop, out ++ (cmpStep X Y).1.1, ?_, ?_, by rw [List.length_append]; omega, ?_⟩
    · rw [List.foldl_append, ← h1]
    · rw [h2, List.append_assoc]
    · generalize (cmpStep X Y).1.1 = W at *
      match W, l1 with
      | [], _ => simpa using h4
      | [o], _ => simpa using h4.step (l2 o (.head _))
/-- What X deletes. -/
theorem CRel.del (h : CRel F K0 X Y s (k + 1)) (hne : ¬ (X.length = 0 ∧ Y.length = 0)) (hd : (headC X).kind = 3) {p : Op} {X' : List Op} (e : takeC (headC X).n X = (p, X')) :
    CRel F K0 (dropC X') (dropC Y) (s.1, wrap64 (s.2 + p.n)) k ∧ p.kind = 3 := by
  have hk : p.kind = 3 := by
    cases X with
    | nil => exact absurd hd (by decide)
    | cons o l =>
      have e1 : p = (splitC o (headC (o :: l)).n).1 := (congrArg Prod.fst e).symm
      rw [e1]
      change o.kind = 3 at hd
      unfold splitC
      rw [if_neg (by omega)]
      exact hd
  have hs : cmpStep X Y = (([p], 0), X', Y) := by unfold cmpStep; rw [if_pos hd, e]
  have := (h.step hne).2
  rw [hs] at this
  have h2 := this rfl
  have n1 : nStep s p = (s.1, wrap64 (s.2 + p.n)) := by unfold nStep; rw [if_neg (by omega), if_neg (by omega), if_pos hk]
  rw [List.foldl_cons, List.foldl_nil, n1] at h2
  exact ⟨h2, hk⟩
/-- What Y inserts. -/
theorem CRel.ins (h : CRel F K0 X Y s (k + 1)) (hne : ¬ (X.length = 0 ∧ Y.length = 0)) (hd : (headC X).kind ≠ 3) (hi : (headC Y).kind = 2) {q : Op} {Y' : List Op} (e : takeC (longC (headC Y)) Y = (q, Y')) :
    CRel F K0 (dropC X) (dropC Y') (putL s.1 q, s.2) k ∧ q.kind = 2 := by
  have hk : q.kind = 2 := by
    cases Y with
    | nil => exact absurd hi (by decide)
    | cons o l =>
      have e1 : q = (splitC o (longC (headC (o :: l)))).1 := (congrArg Prod.fst e).symm
      rw [e1]
      change o.kind = 2 at hi
      unfold splitC
      rw [if_pos hi]
      exact hi
  have hs : cmpStep X Y = (([q], 0), X, Y') := by unfold cmpStep; rw [if_neg hd, if_pos hi, e]
  have := (h.step hne).2
  rw [hs] at this
  have h2 := this rfl
  have n1 : nStep s q = (putL s.1 q, s.2) := by unfold nStep; rw [if_neg (by omega), if_pos hk]
  rw [List.foldl_cons, List.foldl_nil, n1] at h2
  exact ⟨h2, hk⟩
/-- Where both meet. -/
theorem CRel.met (h : CRel F K0 X Y s (k + 1)) (hne : ¬ (X.length = 0 ∧ Y.length = 0)) (hd : (headC X).kind ≠ 3) (hi : (headC Y).kind ≠ 2) {n : Int} (en : min (longC (headC X)) (longC (headC Y)) = n) {p q : Op} {X' Y' : List Op} (e1 : takeC n X = (p, X')) (e2 : takeC n Y = (q, Y')) :
    ((meetC (leftC n p) (rightC n q)).2 = 0 → CRel F K0 (dropC X') (dropC Y') ((meetC (leftC n p) (rightC n q)).1.foldl nStep s) k) ∧ ((meetC (leftC n p) (rightC n q)).2 ≠ 0 → F.2 = (meetC (leftC n p) (rightC n q)).2) := by
  have hs : cmpStep X Y = (meetC (leftC n p) (rightC n q), X', Y') := by unfold cmpStep; rw [if_neg hd, if_neg hi, en, e1, e2]
  have := h.step hne
  rw [hs] at this
  exact ⟨this.2, this.1⟩
/-- The kinds of what is taken. -/
theorem takeC_kind {X : List Op} (hg : Gds X) (n : Int) : (takeC n X).1.kind = (headC X).kind ∧ ((headC X).kind = 1 ∨ (headC X).kind = 2 ∨ (headC X).kind = 3) := by
  cases X with
  | nil => exact ⟨rfl, .inl rfl⟩
  | cons o l =>
    refine ⟨?_, ?_⟩
    · show (splitC o n).1.kind = o.kind
      unfold splitC
      split <;> rfl
    · show o.kind = 1 ∨ o.kind = 2 ∨ o.kind = 3
      rcases hg o (.head _) with ⟨k, _⟩ | ⟨k, _⟩ | ⟨k, _⟩
      · exact .inr (.inl k)
      · exact .inr (.inr k)
      · exact .inl k
end
theorem ms2_le : ∀ {l : List Op}, Gds l → ms2 l ≤ need (ats l) + insC (ats l)
  | [], _ => by simp [ms2]
  | o :: l, h => by
    have := ms2_le h.tail
    have ho := h o (.head _)
    have hn := ho.need
    rw [ms2_cons, ats_cons, need_append, insC_append]
    have : (longC o).toNat ≤ need (opAt o) + insC (opAt o) := by
      unfold longC
      split
      · next hk => rw [opAt2 hk, insC_map, count_chs]; omega
      · omega
    omega
theorem Rt.ms2 {c : Change} (h : Rt c) : ms2 (normL c.ops) ≤ 40000 := by
  have := ms2_le h.nG
  have := h.nNeed
  have := h.small
  have := h.nIns
  have := h.ins
  omega
/-- As the loop begins. -/
theorem crel_start {a b : Change} (ha : Rt a) (hb : Rt b) : CRel (cmpOut a b) (ms2 (normL a.ops) + ms2 (normL b.ops)) (normL a.ops) (normL b.ops) ([], 0) (ms2 (normL a.ops) + ms2 (normL b.ops)) :=
  ⟨Nat.le_refl _, ha.nG, hb.nG, by have := ha.nNeed; have := ha.small; omega, by have := hb.nNeed; have := hb.small; omega, fun y hy => (ha.norm.ok y hy).size, fun y hy => (hb.norm.ok y hy).size, [], rfl, rfl, by simp, by simp [NB]⟩
end Go.Proofs.YtaemajcpgmaapaaDoor
