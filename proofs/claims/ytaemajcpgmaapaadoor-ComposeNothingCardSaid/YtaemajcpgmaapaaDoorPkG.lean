/- What follow.Follow writes: in plain Lean, by operations and by steps. | What follow.Follow writes, by operations, comes to the same steps. Plain Lean. | change.To by steps: what may be, and how long what comes of it is. Plain Lean. | follow.Follow's answer, and its laws. Plain Lean. | Three laws of follow.Follow: both ways of one length; nothing; all taken away. Plain Lean. | follow.Follow's rounds, in plain Lean: what the readers have left, what the writer holds. -/
import Derived.Test.YtaemajcpgmaapaaDoorPkF
namespace Go.Proofs.YtaemajcpgmaapaaDoor
open Go.RowKit
open Go.Lib

def insB : List Op → Bool
  | [] => false
  | x :: _ => x.kind == 2
def leftN : List Op → Int
  | [] => 20001
  | x :: _ => x.n
/-- What take hands out, and what it leaves. -/
def takeO (n : Int) : List Op → Op × List Op
  | [] => (⟨1, n, ⟨#[]⟩, []⟩, [])
  | x :: l => (⟨x.kind, n, x.text, x.attrs⟩, if wrap64 (x.n - n) = 0 then l else ⟨x.kind, wrap64 (x.n - n), x.text, x.attrs⟩ :: l)
/-- The operations that Follow writes, one behind another. -/
def folGo (first : Bool) : Nat → List Op → List Op → List Op
  | 0, _, _ => []
  | k + 1, x, y =>
    if x.length = 0 ∧ y.length = 0 then []
    else if insB y && (first || !insB x) then y.headD default :: folGo first k x y.tail
    else if insB x then ⟨1, runeCount (x.headD default).text, ⟨#[]⟩, []⟩ :: folGo first k x.tail y
    else if (takeO (min (leftN x) (leftN y)) x).1.kind = 3 then folGo first k (takeO (min (leftN x) (leftN y)) x).2 (takeO (min (leftN x) (leftN y)) y).2
    else if (takeO (min (leftN x) (leftN y)) y).1.kind = 3 then (takeO (min (leftN x) (leftN y)) y).1 :: folGo first k (takeO (min (leftN x) (leftN y)) x).2 (takeO (min (leftN x) (leftN y)) y).2
    else ⟨(takeO (min (leftN x) (leftN y)) y).1.kind, (takeO (min (leftN x) (leftN y)) y).1.n, (takeO (min (leftN x) (leftN y)) y).1.text, flL (takeO (min (leftN x) (leftN y)) x).1.attrs (takeO (min (leftN x) (leftN y)) y).1.attrs first⟩ ::
      folGo first k (takeO (min (leftN x) (leftN y)) x).2 (takeO (min (leftN x) (leftN y)) y).2

def folA (first : Bool) : List At → List At → List At
  | [], [] => []
  | .ins _ _ :: x, [] => .keep [] :: folA first x []
  | .del :: x, [] => folA first x []
  | .keep _ :: x, [] => .keep [] :: folA first x []
  | [], .ins c a :: y => .ins c a :: folA first [] y
  | [], .del :: y => .del :: folA first [] y
  | [], .keep v :: y => .keep v :: folA first [] y
  | .ins c a :: x, .ins d b :: y => if first then .ins d b :: folA first (.ins c a :: x) y else .keep [] :: folA first x (.ins d b :: y)
  | .ins _ _ :: x, .del :: y => .keep [] :: folA first x (.del :: y)
  | .ins _ _ :: x, .keep v :: y => .keep [] :: folA first x (.keep v :: y)
  | .del :: x, .ins d b :: y => .ins d b :: folA first (.del :: x) y
  | .keep u :: x, .ins d b :: y => .ins d b :: folA first (.keep u :: x) y
  | .del :: x, .del :: y => folA first x y
  | .del :: x, .keep _ :: y => folA first x y
  | .keep _ :: x, .del :: y => .del :: folA first x y
  | .keep u :: x, .keep v :: y => .keep (flM first u v) :: folA first x y
termination_by x y => x.length + y.length

/-- Steps whose attributes are rising rows. -/
def AtS : At → Prop
  | .ins _ a => Srt a
  | .del => True
  | .keep a => Srt a
def AS (x : List At) : Prop := ∀ s ∈ x, AtS s
theorem AS.tail {s : At} {x : List At} (h : AS (s :: x)) : AS x := fun r hr => h r (.tail _ hr)
theorem AS.head {s : At} {x : List At} (h : AS (s :: x)) : AtS s := h s (.head _)
theorem AS.cons {s : At} {x : List At} (h : AtS s) (k : AS x) : AS (s :: x) := fun r hr => by
  cases hr with
  | head => exact h
  | tail _ hr => exact k r hr
theorem AS.nil : AS [] := fun _ h => by cases h
theorem AS.append {x y : List At} (h : AS x) (k : AS y) : AS (x ++ y) := fun s hs => (List.mem_append.1 hs).elim (h s) (k s)
theorem AS.ks {x : List At} (h : AS x) : KS x := fun _ ha => h _ ha
theorem as_opAt {o : Op} (h : Gd o) : AS (opAt o) := by
  intro s hs
  rcases h with ⟨hk, _, _, _, hr⟩ | ⟨hk, _⟩ | ⟨hk, _, _, hc⟩
  · rw [opAt2 hk] at hs
    obtain ⟨c, _, rfl⟩ := List.mem_map.1 hs
    exact rt_srt hr
  · rw [opAt3 hk] at hs
    rw [List.eq_of_mem_replicate hs]; trivial
  · rw [opAt1 hk] at hs
    rw [List.eq_of_mem_replicate hs]; exact ch_srt hc
theorem as_ats {l : List Op} (h : Gds l) : AS (ats l) := fun s hs => by
  obtain ⟨o, ho, hs⟩ := List.mem_flatMap.1 hs
  exact as_opAt (h o ho) s hs
theorem upd_srt {z : Cell} {u : List Attr} (hz : Srt z.at) (hu : Srt u) : Srt (upd z u).at := by
  cases z with
  | new c a => exact apM_srt hz hu
  | old i a => exact cpM_srt hz hu
theorem upd_cp {z : Cell} {u v : List Attr} (hz : Srt z.at) (hu : Srt u) (hv : Srt v) : upd (upd z u) v = upd z (cpM u v) := by
  cases z with
  | new c a => exact congrArg _ (apM_cpM hz hu hv)
  | old i a => exact congrArg _ (cpM_assoc hz hu hv)
theorem upd_fl {first : Bool} {z : Cell} {u v : List Attr} (hz : Srt z.at) (hu : Srt u) (hv : Srt v) : upd (upd z u) (flM first u v) = upd (upd z v) (flM (!first) v u) := by
  rw [upd_cp hz hu (flM_srt hu hv), upd_cp hz hv (flM_srt hv hu), cpM_flM hu hv]
theorem CS.tail {z : Cell} {L : List Cell} (h : CS (z :: L)) : CS L := fun y hy => h y (.tail _ hy)
theorem CS.head {z : Cell} {L : List Cell} (h : CS (z :: L)) : Srt z.at := h z (.head _)
theorem CS.cons {z : Cell} {L : List Cell} (h : Srt z.at) (k : CS L) : CS (z :: L) := fun y hy => by
  cases hy with
  | head => exact h
  | tail _ hy => exact k y hy
theorem act_cs : ∀ (x : List At) (L : List Cell), AS x → CS L → CS (act L x)
  | [], L, _, hL => by simpa only [act] using hL
  | .ins c a :: x, L, hx, hL => by simp only [act]; exact .cons hx.head (act_cs x L hx.tail hL)
  | .del :: x, [], hx, hL => by simp only [act]; exact act_cs x [] hx.tail hL
  | .del :: x, z :: L, hx, hL => by simp only [act]; exact act_cs x L hx.tail hL.tail
  | .keep a :: x, [], hx, hL => by simp only [act]; exact act_cs x [] hx.tail hL
  | .keep a :: x, z :: L, hx, hL => by simp only [act]; exact .cons (upd_srt hL.head hx.head) (act_cs x L hx.tail hL.tail)
theorem need_pos {n : Nat} {L : List Cell} (h : n + 1 ≤ L.length) : ∃ z M, L = z :: M ∧ n ≤ M.length := by
  cases L with
  | nil => simp at h
  | cons z M => exact ⟨z, M, rfl, by simpa using h⟩

/-- One way round or the other: the same cells. -/
theorem fol_meets (first : Bool) (x y : List At) (L : List Cell) (hx : AS x) (hy : AS y) (hL : CS L) (nx : need x ≤ L.length) (ny : need y ≤ L.length) :
    act (act L x) (folA first x y) = act (act L y) (folA (!first) y x) := by
  match x, y with
  | [], [] => simp only [folA, act]
  | .ins c a :: x, [] =>
    have ih := fol_meets first x [] L hx.tail hy hL nx ny
    simp only [folA, act, upd] at ih ⊢
    rw [apM_nil a hx.head, ih]
  | .del :: x, [] =>
    obtain ⟨z, M, rfl, mx⟩ := need_pos nx
    have ih := fol_meets first x [] M hx.tail hy hL.tail mx (by simp [need])
    simp only [folA, act] at ih ⊢
    exact ih
  | .keep u :: x, [] =>
    obtain ⟨z, M, rfl, mx⟩ := need_pos nx
    have ih := fol_meets first x [] M hx.tail hy hL.tail mx (by simp [need])
    simp only [folA, act] at ih ⊢
    rw [upd_nil (upd_srt hL.head hx.head), ih]
  | [], .ins c a :: y =>
    have ih := fol_meets first [] y L hx hy.tail hL nx ny
    simp only [folA, act, upd] at ih ⊢
    rw [apM_nil a hy.head, ih]
  | [], .del :: y =>
    obtain ⟨z, M, rfl, my⟩ := need_pos ny
    have ih := fol_meets first [] y M hx hy.tail hL.tail (by simp [need]) my
    simp only [folA, act] at ih ⊢
    exact ih
  | [], .keep u :: y =>
    obtain ⟨z, M, rfl, my⟩ := need_pos ny
    have ih := fol_meets first [] y M hx hy.tail hL.tail (by simp [need]) my
    simp only [folA, act] at ih ⊢
    rw [upd_nil (upd_srt hL.head hy.head), ih]
  | .ins c a :: x, .ins d b :: y =>
    cases first with
    | true =>
      have ih := fol_meets true (.ins c a :: x) y L hx hy.tail hL nx ny
      rw [folA, folA]
      simp only [if_true, Bool.not_true, Bool.false_eq_true, if_false, act, upd] at ih ⊢
      rw [apM_nil b hy.head, ih]
    | false =>
      have ih := fol_meets false x (.ins d b :: y) L hx.tail hy hL nx ny
      rw [folA, folA]
      simp only [if_true, Bool.not_false, Bool.false_eq_true, if_false, act, upd] at ih ⊢
      rw [apM_nil a hx.head, ih]
  | .ins c a :: x, .del :: y =>
    have ih := fol_meets first x (.del :: y) L hx.tail hy hL nx ny
    rw [folA, folA]
    simp only [act, upd]
    rw [apM_nil a hx.head, ih]
  | .ins c a :: x, .keep v :: y =>
    have ih := fol_meets first x (.keep v :: y) L hx.tail hy hL nx ny
    rw [folA, folA]
    simp only [act, upd]
    rw [apM_nil a hx.head, ih]
  | .del :: x, .ins d b :: y =>
    have ih := fol_meets first (.del :: x) y L hx hy.tail hL nx ny
    rw [folA, folA]
    simp only [act, upd]
    rw [apM_nil b hy.head, ih]
  | .keep u :: x, .ins d b :: y =>
    have ih := fol_meets first (.keep u :: x) y L hx hy.tail hL nx ny
    rw [folA, folA]
    simp only [act, upd]
    rw [apM_nil b hy.head, ih]
  | .del :: x, .del :: y =>
    obtain ⟨z, M, rfl, mx⟩ := need_pos nx
    have ih := fol_meets first x y M hx.tail hy.tail hL.tail mx (by simpa [need] using ny)
    simp only [folA, act]
    exact ih
  | .del :: x, .keep v :: y =>
    obtain ⟨z, M, rfl, mx⟩ := need_pos nx
    have ih := fol_meets first x y M hx.tail hy.tail hL.tail mx (by simpa [need] using ny)
    simp only [folA, act]
    exact ih
  | .keep u :: x, .del :: y =>
    obtain ⟨z, M, rfl, mx⟩ := need_pos nx
    have ih := fol_meets first x y M hx.tail hy.tail hL.tail mx (by simpa [need] using ny)
    simp only [folA, act]
    exact ih
  | .keep u :: x, .keep v :: y =>
    obtain ⟨z, M, rfl, mx⟩ := need_pos nx
    have ih := fol_meets first x y M hx.tail hy.tail hL.tail mx (by simpa [need] using ny)
    simp only [folA, act]
    rw [ih, upd_fl hL.head hx.head hy.head]
termination_by x.length + y.length
theorem fol_as (first : Bool) (x y : List At) (hx : AS x) (hy : AS y) : AS (folA first x y) := by
  match x, y with
  | [], [] => simp only [folA]; exact .nil
  | .ins c a :: x, [] => rw [folA]; exact .cons .nil (fol_as first x [] hx.tail hy)
  | .del :: x, [] => rw [folA]; exact fol_as first x [] hx.tail hy
  | .keep u :: x, [] => rw [folA]; exact .cons .nil (fol_as first x [] hx.tail hy)
  | [], .ins c a :: y => rw [folA]; exact .cons hy.head (fol_as first [] y hx hy.tail)
  | [], .del :: y => rw [folA]; exact .cons trivial (fol_as first [] y hx hy.tail)
  | [], .keep u :: y => rw [folA]; exact .cons hy.head (fol_as first [] y hx hy.tail)
  | .ins c a :: x, .ins d b :: y =>
    rw [folA]
    split
    · exact .cons hy.head (fol_as first (.ins c a :: x) y hx hy.tail)
    · exact .cons .nil (fol_as first x (.ins d b :: y) hx.tail hy)
  | .ins c a :: x, .del :: y => rw [folA]; exact .cons .nil (fol_as first x (.del :: y) hx.tail hy)
  | .ins c a :: x, .keep v :: y => rw [folA]; exact .cons .nil (fol_as first x (.keep v :: y) hx.tail hy)
  | .del :: x, .ins d b :: y => rw [folA]; exact .cons hy.head (fol_as first (.del :: x) y hx hy.tail)
  | .keep u :: x, .ins d b :: y => rw [folA]; exact .cons hy.head (fol_as first (.keep u :: x) y hx hy.tail)
  | .del :: x, .del :: y => rw [folA]; exact fol_as first x y hx.tail hy.tail
  | .del :: x, .keep v :: y => rw [folA]; exact fol_as first x y hx.tail hy.tail
  | .keep u :: x, .del :: y => rw [folA]; exact .cons trivial (fol_as first x y hx.tail hy.tail)
  | .keep u :: x, .keep v :: y => rw [folA]; exact .cons (flM_srt hx.head hy.head) (fol_as first x y hx.tail hy.tail)
termination_by x.length + y.length
/-- What follows x is about no more runes than x leaves. -/
theorem fol_need (first : Bool) (x y : List At) (L : List Cell) (nx : need x ≤ L.length) (ny : need y ≤ L.length) : need (folA first x y) ≤ (act L x).length := by
  match x, y with
  | [], [] => simp only [folA, need]; omega
  | .ins c a :: x, [] =>
    have ih := fol_need first x [] L nx ny
    simp only [folA, act, need, List.length_cons]
    omega
  | .del :: x, [] =>
    obtain ⟨z, M, rfl, mx⟩ := need_pos nx
    have ih := fol_need first x [] M mx (by simp [need])
    simp only [folA, act]
    exact ih
  | .keep u :: x, [] =>
    obtain ⟨z, M, rfl, mx⟩ := need_pos nx
    have ih := fol_need first x [] M mx (by simp [need])
    simp only [folA, act, need, List.length_cons]
    omega
  | [], .ins c a :: y =>
    have ih := fol_need first [] y L nx ny
    simp only [folA, act, need] at ih ⊢
    exact ih
  | [], .del :: y =>
    obtain ⟨z, M, rfl, my⟩ := need_pos ny
    have ih := fol_need first [] y M (by simp [need]) my
    simp only [folA, act, need, List.length_cons] at ih ⊢
    omega
  | [], .keep u :: y =>
    obtain ⟨z, M, rfl, my⟩ := need_pos ny
    have ih := fol_need first [] y M (by simp [need]) my
    simp only [folA, act, need, List.length_cons] at ih ⊢
    omega
  | .ins c a :: x, .ins d b :: y =>
    rw [folA]
    split
    · have ih := fol_need first (.ins c a :: x) y L nx ny
      simp only [need]
      exact ih
    · have ih := fol_need first x (.ins d b :: y) L nx ny
      simp only [need, act, List.length_cons]
      omega
  | .ins c a :: x, .del :: y =>
    have ih := fol_need first x (.del :: y) L nx ny
    rw [folA]
    simp only [need, act, List.length_cons]
    omega
  | .ins c a :: x, .keep v :: y =>
    have ih := fol_need first x (.keep v :: y) L nx ny
    rw [folA]
    simp only [need, act, List.length_cons]
    omega
  | .del :: x, .ins d b :: y =>
    have ih := fol_need first (.del :: x) y L nx ny
    rw [folA]
    simp only [need]
    exact ih
  | .keep u :: x, .ins d b :: y =>
    have ih := fol_need first (.keep u :: x) y L nx ny
    rw [folA]
    simp only [need]
    exact ih
  | .del :: x, .del :: y =>
    obtain ⟨z, M, rfl, mx⟩ := need_pos nx
    have ih := fol_need first x y M mx (by simpa [need] using ny)
    simp only [folA, act]
    exact ih
  | .del :: x, .keep v :: y =>
    obtain ⟨z, M, rfl, mx⟩ := need_pos nx
    have ih := fol_need first x y M mx (by simpa [need] using ny)
    simp only [folA, act]
    exact ih
  | .keep u :: x, .del :: y =>
    obtain ⟨z, M, rfl, mx⟩ := need_pos nx
    have ih := fol_need first x y M mx (by simpa [need] using ny)
    simp only [folA, act, need, List.length_cons]
    omega
  | .keep u :: x, .keep v :: y =>
    obtain ⟨z, M, rfl, mx⟩ := need_pos nx
    have ih := fol_need first x y M mx (by simpa [need] using ny)
    simp only [folA, act, need, List.length_cons]
    omega
termination_by x.length + y.length
end Go.Proofs.YtaemajcpgmaapaaDoor

namespace Go.Proofs.YtaemajcpgmaapaaDoor
open Go.RowKit
open Go.Lib

/-- What one step meets. -/
def fo1 (first : Bool) : At → At → List At
  | .keep _, .del => [.del]
  | .keep u, .keep v => [.keep (flM first u v)]
  | _, _ => []
def NoI : At → Prop
  | .ins _ _ => False
  | _ => True
theorem folA_run (first : Bool) (a b : At) (ha : NoI a) (hb : NoI b) (X Y : List At) : ∀ n, folA first (List.replicate n a ++ X) (List.replicate n b ++ Y) = (List.replicate n (fo1 first a b)).flatten ++ folA first X Y
  | 0 => rfl
  | n + 1 => by
    have ih := folA_run first a b ha hb X Y n
    rw [List.replicate_succ, List.replicate_succ, List.replicate_succ, List.cons_append, List.cons_append, List.flatten_cons]
    cases a with
    | ins c u => exact ha.elim
    | del =>
      cases b with
      | ins c u => exact hb.elim
      | del => rw [folA, ih]; rfl
      | keep v => rw [folA, ih]; rfl
    | keep u =>
      cases b with
      | ins c u => exact hb.elim
      | del => rw [folA, ih]; rfl
      | keep v => rw [folA, ih]; rfl
theorem folA_runL (first : Bool) (a : At) (ha : NoI a) (hs : AtS a) (X : List At) : ∀ n, folA first (List.replicate n a ++ X) [] = (List.replicate n (fo1 first a (.keep []))).flatten ++ folA first X []
  | 0 => rfl
  | n + 1 => by
    have ih := folA_runL first a ha hs X n
    rw [List.replicate_succ, List.replicate_succ, List.cons_append, List.flatten_cons]
    cases a with
    | ins c u => exact ha.elim
    | del => rw [folA, ih]; rfl
    | keep u => rw [folA, ih, fo1, flM_nil first u hs]; rfl
theorem folA_runR (first : Bool) (b : At) (hb : NoI b) (hs : AtS b) (Y : List At) : ∀ n, folA first [] (List.replicate n b ++ Y) = (List.replicate n (fo1 first (.keep []) b)).flatten ++ folA first [] Y
  | 0 => rfl
  | n + 1 => by
    have ih := folA_runR first b hb hs Y n
    rw [List.replicate_succ, List.replicate_succ, List.cons_append, List.flatten_cons]
    cases b with
    | ins c u => exact hb.elim
    | del => rw [folA, ih]; rfl
    | keep u => rw [folA, ih, fo1, nil_flM first u hs]; rfl
def isIns : List At → Bool
  | .ins _ _ :: _ => true
  | _ => false
theorem folA_insY (first : Bool) (X Y : List At) (a : List Attr) : ∀ cs : List (List UInt8), (first = true ∨ isIns X = false) → folA first X (cs.map (fun c => .ins c a) ++ Y) = cs.map (fun c => .ins c a) ++ folA first X Y
  | [], _ => rfl
  | c :: cs, h => by
    have ih := folA_insY first X Y a cs h
    rw [List.map_cons, List.cons_append, List.cons_append, ← ih]
    match X, h with
    | [], _ => rw [folA]
    | .ins d b :: X, h =>
      rcases h with h | h
      · rw [folA, if_pos h]
      · cases h
    | .del :: X, _ => rw [folA]
    | .keep u :: X, _ => rw [folA]
theorem folA_insX (first : Bool) (X Y : List At) (a : List Attr) : ∀ cs : List (List UInt8), (first = false ∨ isIns Y = false) → folA first (cs.map (fun c => .ins c a) ++ X) Y = List.replicate cs.length (.keep []) ++ folA first X Y
  | [], _ => rfl
  | c :: cs, h => by
    have ih := folA_insX first X Y a cs h
    rw [List.map_cons, List.cons_append, List.length_cons, List.replicate_succ, List.cons_append, ← ih]
    match Y, h with
    | [], _ => rw [folA]
    | .ins d b :: Y, h =>
      rcases h with h | h
      · rw [folA, if_neg (by simp [h])]
      · cases h
    | .del :: Y, _ => rw [folA]
    | .keep u :: Y, _ => rw [folA]
theorem isIns_ats {l : List Op} (h : Gds l) : isIns (ats l) = insB l := by
  cases l with
  | nil => rfl
  | cons o l =>
    rw [ats_cons]
    show _ = (o.kind == 2)
    have hne := (h o (.head _)).ne
    rcases h o (.head _) with ⟨hk, _⟩ | ⟨hk, _⟩ | ⟨hk, _⟩
    · rw [hk]
      rw [opAt2 hk] at hne ⊢
      cases hc : chs o.text.data.toList with
      | nil => rw [hc] at hne; exact absurd rfl hne
      | cons c cs => rfl
    · rw [hk]
      rw [opAt3 hk] at hne ⊢
      cases hn : o.n.toNat with
      | zero => rw [hn] at hne; exact absurd rfl hne
      | succ n => rfl
    · rw [hk]
      rw [opAt1 hk] at hne ⊢
      cases hn : o.n.toNat with
      | zero => rw [hn] at hne; exact absurd rfl hne
      | succ n => rfl

/-- How many rounds there are at most. -/
def ms (l : List Op) : Nat := (l.map fun o => o.n.toNat + 1).sum
theorem ms_cons (o : Op) (l : List Op) : ms (o :: l) = o.n.toNat + 1 + ms l := by simp [ms]
def stepO (o : Op) : At := if o.kind = 3 then .del else .keep o.attrs
theorem opAt_step {o : Op} (h : o.kind ≠ 2) : opAt o = List.replicate o.n.toNat (stepO o) := by
  unfold opAt stepO
  rw [if_neg h]
  split <;> rfl
theorem noI_step (o : Op) : NoI (stepO o) := by unfold stepO; split <;> trivial
theorem atS_step {o : Op} (h : Gd o) (hk : o.kind ≠ 2) : AtS (stepO o) := by
  unfold stepO
  rcases h with ⟨k, _⟩ | ⟨k, _⟩ | ⟨k, _, _, hc⟩
  · exact absurd k hk
  · rw [if_pos k]; trivial
  · rw [if_neg (by omega)]; exact ch_srt hc
theorem take_law {n : Int} {o : Op} {l : List Op} (hg : Gds (o :: l)) (hk : o.kind ≠ 2) (h0 : 0 < n) (hn : n ≤ o.n) (hb : o.n ≤ 4611686018427387904) :
    Gds (takeO n (o :: l)).2 ∧ ats (o :: l) = List.replicate n.toNat (stepO o) ++ ats (takeO n (o :: l)).2 ∧ ms (takeO n (o :: l)).2 < ms (o :: l) := by
  unfold takeO
  dsimp only
  rw [w64 (by omega) (by omega)]
  have ho := hg o (.head _)
  by_cases h : o.n - n = 0
  · rw [if_pos h]
    refine ⟨hg.tail, ?_, by rw [ms_cons]; omega⟩
    rw [ats_cons, opAt_step hk, show o.n = n by omega]
  · rw [if_neg h]
    have hg' : Gd ⟨o.kind, o.n - n, o.text, o.attrs⟩ := by
      rcases ho with ⟨k, _⟩ | ⟨k, k1, k2, k3⟩ | ⟨k, k1, k2, k3⟩
      · exact absurd k hk
      · exact .inr (.inl ⟨k, by simp only; omega, k2, k3⟩)
      · exact .inr (.inr ⟨k, by simp only; omega, k2, k3⟩)
    refine ⟨fun x hx => ?_, ?_, by rw [ms_cons, ms_cons]; dsimp only; omega⟩
    · cases hx with
      | head => exact hg'
      | tail _ hx => exact hg.tail x hx
    · rw [ats_cons, ats_cons, opAt_step hk, opAt_step (o := ⟨o.kind, o.n - n, o.text, o.attrs⟩) hk, ← List.append_assoc]
      congr 1
      rw [show stepO ⟨o.kind, o.n - n, o.text, o.attrs⟩ = stepO o from rfl, List.replicate_append_replicate]
      congr 1
      dsimp only
      omega
theorem takeO_fst (n : Int) (o : Op) (l : List Op) : (takeO n (o :: l)).1 = ⟨o.kind, n, o.text, o.attrs⟩ := rfl
theorem takeO_nil (n : Int) : takeO n [] = (⟨1, n, ⟨#[]⟩, []⟩, []) := rfl
/-- What a round writes where two are about runes. -/
def metL (first : Bool) (p q : Op) : List Op :=
  if p.kind = 3 then [] else if q.kind = 3 then [q] else [⟨q.kind, q.n, q.text, flL p.attrs q.attrs first⟩]
theorem metL_law {first : Bool} {p q : Op} {n : Int} (hp : Gd p) (hq : Gd q) (kp : p.kind ≠ 2) (kq : q.kind ≠ 2) (_ : p.n = n) (nq : q.n = n) :
    Gds (metL first p q) ∧ ats (metL first p q) = (List.replicate n.toNat (fo1 first (stepO p) (stepO q))).flatten := by
  have hrep : ∀ s : At, (List.replicate n.toNat [s]).flatten = List.replicate n.toNat s := fun s => by
    generalize n.toNat = k
    induction k with
    | zero => rfl
    | succ k ih => rw [List.replicate_succ, List.flatten_cons, ih, List.replicate_succ]; rfl
  have hrep0 : (List.replicate n.toNat ([] : List At)).flatten = [] := by
    generalize n.toNat = k
    induction k with
    | zero => rfl
    | succ k ih => rw [List.replicate_succ, List.flatten_cons, ih]; rfl
  unfold metL
  by_cases k3 : p.kind = 3
  · rw [if_pos k3]
    refine ⟨fun _ h => (by cases h), ?_⟩
    rw [show stepO p = .del by unfold stepO; rw [if_pos k3]]
    rw [show fo1 first .del (stepO q) = [] by cases stepO q <;> rfl, hrep0]; rfl
  · rw [if_neg k3]
    have e1 : stepO p = .keep p.attrs := by unfold stepO; rw [if_neg k3]
    by_cases k4 : q.kind = 3
    · rw [if_pos k4]
      refine ⟨fun x h => by simp at h; subst h; exact hq, ?_⟩
      rw [ats_one, opAt_step kq, e1, show stepO q = .del by unfold stepO; rw [if_pos k4], nq]
      exact (hrep .del).symm
    · rw [if_neg k4]
      have e2 : stepO q = .keep q.attrs := by unfold stepO; rw [if_neg k4]
      have hpc : chErr p.attrs = 0 := by
        rcases hp with ⟨k, _⟩ | ⟨k, _⟩ | ⟨_, _, _, hc⟩
        · exact absurd k kp
        · exact absurd k k3
        · exact hc
      rcases hq with ⟨k, _⟩ | ⟨k, _⟩ | ⟨k, hn, ht, hc⟩
      · exact absurd k kq
      · exact absurd k k4
      · rw [flL_eq hpc hc]
        refine ⟨fun x h => by simp at h; subst h; exact .inr (.inr ⟨k, hn, ht, flM_ch hpc hc⟩), ?_⟩
        rw [ats_one, opAt1 (o := ⟨q.kind, q.n, q.text, flM first p.attrs q.attrs⟩) k, e1, e2]
        dsimp only
        rw [nq]
        exact (hrep _).symm
theorem folGo_law (first : Bool) : ∀ (k : Nat) (x y : List Op), Gds x → Gds y → need (ats x) ≤ 4611686018427387904 → need (ats y) ≤ 4611686018427387904 → ms x + ms y ≤ k →
    Gds (folGo first k x y) ∧ ats (folGo first k x y) = folA first (ats x) (ats y)
  | 0, x, y, hx, hy, _, _, hk => by
    have hx0 : x = [] := by cases x with | nil => rfl | cons o x => rw [ms_cons] at hk; omega
    have hy0 : y = [] := by cases y with | nil => rfl | cons o y => rw [ms_cons] at hk; omega
    subst hx0 hy0
    exact ⟨fun _ h => (by cases h), by simp [folGo, ats, folA]⟩
  | k + 1, x, y, hx, hy, bx, by_, hk => by
    unfold folGo
    by_cases h0 : x.length = 0 ∧ y.length = 0
    · rw [if_pos h0]
      have hx0 := List.eq_nil_of_length_eq_zero h0.1
      have hy0 := List.eq_nil_of_length_eq_zero h0.2
      subst hx0 hy0
      exact ⟨fun _ h => (by cases h), by simp [ats, folA]⟩
    · rw [if_neg h0]
      by_cases h1 : (insB y && (first || !insB x)) = true
      · rw [if_pos h1]
        simp only [Bool.and_eq_true, Bool.or_eq_true, Bool.not_eq_true'] at h1
        cases y with
        | nil => cases h1.1
        | cons q y =>
          have hq := hy q (.head _)
          have k2 : q.kind = 2 := by have := h1.1; simpa [insB] using this
          rw [ats_cons, need_append] at by_
          rw [ms_cons] at hk
          obtain ⟨i1, i2⟩ := folGo_law first k x y hx hy.tail bx (by omega) (by omega)
          simp only [List.headD_cons, List.tail_cons]
          refine ⟨fun z hz => ?_, ?_⟩
          · cases hz with
            | head => exact hq
            | tail _ hz => exact i1 z hz
          · rw [ats_cons, ats_cons, i2, opAt2 k2, folA_insY]
            rw [isIns_ats hx]; exact h1.2
      · rw [if_neg h1]
        by_cases h2 : insB x = true
        · rw [if_pos h2]
          cases x with
          | nil => cases h2
          | cons p x =>
            have hp := hx p (.head _)
            have k2 : p.kind = 2 := by simpa [insB] using h2
            rw [ats_cons, need_append] at bx
            rw [ms_cons] at hk
            obtain ⟨i1, i2⟩ := folGo_law first k x y hx.tail hy (by omega) by_ (by omega)
            simp only [List.headD_cons, List.tail_cons]
            have hc : 0 < (chs p.text.data.toList).length := by
              rcases hp with ⟨_, _, _, ht, _⟩ | ⟨k3, _⟩ | ⟨k3, _⟩
              · exact List.length_pos_iff.2 fun e => ht (chs_eq_nil.1 e)
              · omega
              · omega
            refine ⟨fun z hz => ?_, ?_⟩
            · cases hz with
              | head => exact .inr (.inr ⟨rfl, by rw [count_chs]; dsimp only; omega, rfl, ch_nil⟩)
              | tail _ hz => exact i1 z hz
            · rw [ats_cons, ats_cons, i2, opAt2 k2, folA_insX, opAt1 rfl, count_chs]
              · rfl
              · rw [isIns_ats hy]
                cases first with
                | false => exact .inl rfl
                | true => right; simpa using h1
        · rw [if_neg h2]
          have hy2 : insB y = false := by
            cases hyi : insB y with
            | false => rfl
            | true =>
              rw [hyi] at h1
              simp only [Bool.true_and, Bool.or_eq_true, Bool.not_eq_true'] at h1
              exact absurd (.inr (by simpa using h2)) h1
          -- a run of both
          have key : ∀ (p q : Op) (x' y' : List Op) (n : Int), (takeO (min (leftN x) (leftN y)) x) = (p, x') → (takeO (min (leftN x) (leftN y)) y) = (q, y') → Gd p → Gd q → p.kind ≠ 2 → q.kind ≠ 2 → p.n = n → q.n = n →
              Gds x' → Gds y' → need (ats x') ≤ 4611686018427387904 → need (ats y') ≤ 4611686018427387904 → ms x' + ms y' ≤ k →
              folA first (ats x) (ats y) = (List.replicate n.toNat (fo1 first (stepO p) (stepO q))).flatten ++ folA first (ats x') (ats y') →
              Gds (metL first p q ++ folGo first k x' y') ∧ ats (metL first p q ++ folGo first k x' y') = folA first (ats x) (ats y) := by
            intro p q x' y' n _ _ hp hq kp kq np nq gx gy nx ny hm hf
            obtain ⟨i1, i2⟩ := folGo_law first k x' y' gx gy nx ny hm
            obtain ⟨m1, m2⟩ := metL_law (first := first) hp hq kp kq np nq
            exact ⟨m1.append i1, by rw [ats_append, i2, m2, hf]⟩
          have fin : ∀ (p q : Op) (x' y' : List Op), (takeO (min (leftN x) (leftN y)) x) = (p, x') → (takeO (min (leftN x) (leftN y)) y) = (q, y') →
              (if (takeO (min (leftN x) (leftN y)) x).1.kind = 3 then folGo first k (takeO (min (leftN x) (leftN y)) x).2 (takeO (min (leftN x) (leftN y)) y).2
                else if (takeO (min (leftN x) (leftN y)) y).1.kind = 3 then (takeO (min (leftN x) (leftN y)) y).1 :: folGo first k (takeO (min (leftN x) (leftN y)) x).2 (takeO (min (leftN x) (leftN y)) y).2
                else ⟨(takeO (min (leftN x) (leftN y)) y).1.kind, (takeO (min (leftN x) (leftN y)) y).1.n, (takeO (min (leftN x) (leftN y)) y).1.text, flL (takeO (min (leftN x) (leftN y)) x).1.attrs (takeO (min (leftN x) (leftN y)) y).1.attrs first⟩ ::
                  folGo first k (takeO (min (leftN x) (leftN y)) x).2 (takeO (min (leftN x) (leftN y)) y).2) = metL first p q ++ folGo first k x' y' := by
            intro p q x' y' e1 e2
            rw [e1, e2]
            unfold metL
            dsimp only
            split
            · rfl
            · split <;> rfl
          cases x with
          | nil =>
            cases y with
            | nil => exact absurd ⟨rfl, rfl⟩ h0
            | cons q y =>
              have hq := hy q (.head _)
              have kq : q.kind ≠ 2 := by simpa [insB] using hy2
              have hqn : 0 < q.n := by rcases hq with ⟨k2, _⟩ | ⟨_, h, _⟩ | ⟨_, h, _⟩ <;> first | exact absurd k2 kq | exact h
              have hqb : q.n ≤ 4611686018427387904 := by have := hq.need; rw [ats_cons, need_append] at by_; omega
              have hmin : min (leftN []) (leftN (q :: y)) ≤ q.n ∧ 0 < min (leftN []) (leftN (q :: y)) := by
                show min 20001 q.n ≤ q.n ∧ 0 < min 20001 q.n
                omega
              rw [fin _ _ _ _ (takeO_nil _) rfl]
              generalize min (leftN []) (leftN (q :: y)) = n at *
              obtain ⟨t1, t2, t3⟩ := take_law hy kq hmin.2 hmin.1 hqb
              have hq' : Gd ⟨q.kind, n, q.text, q.attrs⟩ := by
                rcases hq with ⟨k2, _⟩ | ⟨k2, _, h3, h4⟩ | ⟨k2, _, h3, h4⟩
                · exact absurd k2 kq
                · exact .inr (.inl ⟨k2, hmin.2, h3, h4⟩)
                · exact .inr (.inr ⟨k2, hmin.2, h3, h4⟩)
              refine key _ _ _ _ n (takeO_nil _) rfl (.inr (.inr ⟨rfl, hmin.2, rfl, ch_nil⟩)) hq' (show (1 : Int) ≠ 2 by decide) kq rfl rfl (fun _ h => by cases h) t1 (by simp [ats, need]) ?_ (by have e0 : ms [] = 0 := rfl; show ms [] + ms (takeO n (q :: y)).2 ≤ k; omega) ?_
              · show need (ats (takeO n (q :: y)).2) ≤ _; rw [t2, need_append] at by_; omega
              · rw [t2, ats_nil, folA_runR _ _ (noI_step _) (atS_step hq kq)]
                rfl
          | cons p x =>
            have hp := hx p (.head _)
            have kp : p.kind ≠ 2 := by simpa [insB] using h2
            have hpn : 0 < p.n := by rcases hp with ⟨k2, _⟩ | ⟨_, h, _⟩ | ⟨_, h, _⟩ <;> first | exact absurd k2 kp | exact h
            have hpb : p.n ≤ 4611686018427387904 := by have := hp.need; rw [ats_cons, need_append] at bx; omega
            cases y with
            | nil =>
              have hmin : min (leftN (p :: x)) (leftN []) ≤ p.n ∧ 0 < min (leftN (p :: x)) (leftN []) := by
                show min p.n 20001 ≤ p.n ∧ 0 < min p.n 20001
                omega
              rw [fin _ _ _ _ rfl (takeO_nil _)]
              generalize min (leftN (p :: x)) (leftN []) = n at *
              obtain ⟨t1, t2, t3⟩ := take_law hx kp hmin.2 hmin.1 hpb
              have hp' : Gd ⟨p.kind, n, p.text, p.attrs⟩ := by
                rcases hp with ⟨k2, _⟩ | ⟨k2, _, h3, h4⟩ | ⟨k2, _, h3, h4⟩
                · exact absurd k2 kp
                · exact .inr (.inl ⟨k2, hmin.2, h3, h4⟩)
                · exact .inr (.inr ⟨k2, hmin.2, h3, h4⟩)
              refine key _ _ _ _ n rfl (takeO_nil _) hp' (.inr (.inr ⟨rfl, hmin.2, rfl, ch_nil⟩)) kp (show (1 : Int) ≠ 2 by decide) rfl rfl t1 (fun _ h => by cases h) ?_ (by simp [ats, need]) (by have e0 : ms [] = 0 := rfl; show ms (takeO n (p :: x)).2 + ms [] ≤ k; omega) ?_
              · show need (ats (takeO n (p :: x)).2) ≤ _; rw [t2, need_append] at bx; omega
              · rw [t2, ats_nil, folA_runL _ _ (noI_step _) (atS_step hp kp)]
                rfl
            | cons q y =>
              have hq := hy q (.head _)
              have kq : q.kind ≠ 2 := by simpa [insB] using hy2
              have hqn : 0 < q.n := by rcases hq with ⟨k2, _⟩ | ⟨_, h, _⟩ | ⟨_, h, _⟩ <;> first | exact absurd k2 kq | exact h
              have hqb : q.n ≤ 4611686018427387904 := by have := hq.need; rw [ats_cons, need_append] at by_; omega
              have hmin : min (leftN (p :: x)) (leftN (q :: y)) ≤ p.n ∧ min (leftN (p :: x)) (leftN (q :: y)) ≤ q.n ∧ 0 < min (leftN (p :: x)) (leftN (q :: y)) := by
                show min p.n q.n ≤ p.n ∧ min p.n q.n ≤ q.n ∧ 0 < min p.n q.n
                omega
              rw [fin _ _ _ _ rfl rfl]
              generalize min (leftN (p :: x)) (leftN (q :: y)) = n at *
              obtain ⟨s1, s2, s3⟩ := take_law hx kp hmin.2.2 hmin.1 hpb
              obtain ⟨t1, t2, t3⟩ := take_law hy kq hmin.2.2 hmin.2.1 hqb
              have hp' : Gd ⟨p.kind, n, p.text, p.attrs⟩ := by
                rcases hp with ⟨k2, _⟩ | ⟨k2, _, h3, h4⟩ | ⟨k2, _, h3, h4⟩
                · exact absurd k2 kp
                · exact .inr (.inl ⟨k2, hmin.2.2, h3, h4⟩)
                · exact .inr (.inr ⟨k2, hmin.2.2, h3, h4⟩)
              have hq' : Gd ⟨q.kind, n, q.text, q.attrs⟩ := by
                rcases hq with ⟨k2, _⟩ | ⟨k2, _, h3, h4⟩ | ⟨k2, _, h3, h4⟩
                · exact absurd k2 kq
                · exact .inr (.inl ⟨k2, hmin.2.2, h3, h4⟩)
                · exact .inr (.inr ⟨k2, hmin.2.2, h3, h4⟩)
              refine key _ _ _ _ n rfl rfl hp' hq' kp kq rfl rfl s1 t1 ?_ ?_ (by show ms (takeO n (p :: x)).2 + ms (takeO n (q :: y)).2 ≤ k; omega) ?_
              · show need (ats (takeO n (p :: x)).2) ≤ _; rw [s2, need_append] at bx; omega
              · show need (ats (takeO n (q :: y)).2) ≤ _; rw [t2, need_append] at by_; omega
              · rw [s2, t2, folA_run _ _ _ (noI_step _) (noI_step _)]
                rfl
end Go.Proofs.YtaemajcpgmaapaaDoor

namespace Go.Proofs.YtaemajcpgmaapaaDoor
open Go.RowKit
open Go.Lib

def insC : List At → Nat
  | [] => 0
  | .ins _ _ :: r => insC r + 1
  | .del :: r => insC r
  | .keep _ :: r => insC r
def delC : List At → Nat
  | [] => 0
  | .ins _ _ :: r => delC r
  | .del :: r => delC r + 1
  | .keep _ :: r => delC r
theorem insC_append : ∀ x y, insC (x ++ y) = insC x + insC y
  | [], y => by simp [insC]
  | .ins _ _ :: x, y => by simp [insC, insC_append x y]; omega
  | .del :: x, y => by simp [insC, insC_append x y]
  | .keep _ :: x, y => by simp [insC, insC_append x y]
theorem delC_append : ∀ x y, delC (x ++ y) = delC x + delC y
  | [], y => by simp [delC]
  | .ins _ _ :: x, y => by simp [delC, delC_append x y]
  | .del :: x, y => by simp [delC, delC_append x y]; omega
  | .keep _ :: x, y => by simp [delC, delC_append x y]
theorem delC_le : ∀ x, delC x ≤ need x
  | [] => Nat.le_refl _
  | .ins _ _ :: x => delC_le x
  | .del :: x => Nat.succ_le_succ (delC_le x)
  | .keep _ :: x => Nat.le_succ_of_le (delC_le x)
theorem act_len : ∀ (x : List At) (L : List Cell), need x ≤ L.length → (act L x).length + delC x = L.length + insC x
  | [], L, _ => by simp [act, delC, insC]
  | .ins _ _ :: x, L, h => by have := act_len x L h; simp only [act, delC, insC, List.length_cons]; omega
  | .del :: x, L, h => by
    obtain ⟨z, M, rfl, h1⟩ := need_pos h
    have := act_len x M h1
    simp only [act, delC, insC, List.length_cons]; omega
  | .keep _ :: x, L, h => by
    obtain ⟨z, M, rfl, h1⟩ := need_pos h
    have := act_len x M h1
    simp only [act, delC, insC, List.length_cons]; omega
theorem insC_map (a : List Attr) : ∀ cs : List (List UInt8), insC (cs.map fun c => .ins c a) = cs.length
  | [] => rfl
  | c :: cs => by simp [insC, insC_map a cs]
theorem delC_map (a : List Attr) : ∀ cs : List (List UInt8), delC (cs.map fun c => .ins c a) = 0
  | [] => rfl
  | c :: cs => by simp [delC, delC_map a cs]
theorem insC_rep (s : At) (h : NoI s) : ∀ n, insC (List.replicate n s) = 0
  | 0 => rfl
  | n + 1 => by
    rw [List.replicate_succ]
    cases s with
    | ins => exact h.elim
    | del => exact insC_rep _ h n
    | keep => exact insC_rep _ h n
theorem delC_dels : ∀ n, delC (List.replicate n .del) = n
  | 0 => rfl
  | n + 1 => by rw [List.replicate_succ]; simp [delC, delC_dels n]
theorem delC_keeps (a : List Attr) : ∀ n, delC (List.replicate n (.keep a)) = 0
  | 0 => rfl
  | n + 1 => by rw [List.replicate_succ]; simp [delC, delC_keeps a n]

theorem isEmpty_toList {s : ByteArray} : s.toList.isEmpty = true ↔ s = ⟨#[]⟩ := ⟨isEmp, by rintro rfl; rw [ByteArray.toList_eq]; rfl⟩
theorem opOk_gd {o : Op} (h : opOk o) : Gd o := by
  obtain ⟨hs, h2, h1⟩ := h
  unfold shapedB at hs
  by_cases k2 : o.kind = 2
  · rw [if_pos k2] at hs
    simp only [Bool.and_eq_true, beq_iff_eq, Bool.not_eq_true'] at hs
    obtain ⟨hc, hr⟩ := h2 k2
    have hv : validD o.text.data.toList = true := by
      unfold cntErr at hc
      split at hc
      · next h => exact h.1
      · cases hc
    refine .inl ⟨k2, hs.1, hv, fun e => ?_, hr⟩
    have := hs.2
    rw [ByteArray.toList_eq, e] at this
    cases this
  · rw [if_neg k2] at hs
    by_cases k3 : o.kind = 3
    · rw [if_pos k3] at hs
      simp only [Bool.and_eq_true, decide_eq_true_eq] at hs
      exact .inr (.inl ⟨k3, hs.1, isEmp hs.2.1, List.eq_nil_of_length_eq_zero hs.2.2⟩)
    · rw [if_neg k3] at hs
      simp only [Bool.and_eq_true, decide_eq_true_eq, beq_iff_eq] at hs
      exact .inr (.inr ⟨hs.1, hs.2.1, isEmp hs.2.2, h1 k2⟩)
theorem gd_opOk {o : Op} (h : Gd o) (hc : insC (opAt o) ≤ 20000) : opOk o := by
  rcases h with ⟨k, n, v, t, r⟩ | ⟨k, n, t, a⟩ | ⟨k, n, t, a⟩
  · rw [opAt2 k, insC_map, ← count_chs] at hc
    refine ⟨?_, fun _ => ⟨?_, r⟩, fun h => absurd k h⟩
    · unfold shapedB
      rw [if_pos k, n]
      simp only [beq_self_eq_true, Bool.true_and, Bool.not_eq_true']
      cases e : o.text.toList.isEmpty with
      | false => rfl
      | true => rw [isEmp e] at t; exact absurd rfl t
    · unfold cntErr; rw [if_pos ⟨v, hc⟩]
  · refine ⟨?_, fun h => by omega, fun _ => by rw [a]; exact ch_nil⟩
    unfold shapedB
    rw [if_neg (by omega), if_pos k, t, a]
    simp [n, ByteArray.toList_eq]
  · refine ⟨?_, fun h => by omega, fun _ => a⟩
    unfold shapedB
    rw [if_neg (by omega), if_neg (by omega), t, k]
    simp [n, ByteArray.toList_eq]
/-- What one operation takes and leaves. -/
theorem oneR_law {o : Op} {left : Int} (h : opOk o) : (oneR o left).2.2 = 0 ↔ (need (opAt o) : Int) ≤ left ∨ o.kind = 2 := by
  have hg := opOk_gd h
  obtain ⟨hs, h2, h1⟩ := h
  unfold oneR
  rw [if_neg (by rw [hs]; simp)]
  by_cases k2 : o.kind = 2
  · rw [if_pos k2, if_pos (h2 k2).1]
    simp [k2, (h2 k2).2]
  · rw [if_neg k2, if_pos (h1 k2), hg.need]
    by_cases hl : left < o.n
    · rw [if_pos hl]; simp [k2]; omega
    · rw [if_neg hl]
      split <;> simp [k2] <;> omega
theorem oneR_val {o : Op} {left : Int} (h : opOk o) (h0 : (oneR o left).2.2 = 0) : (oneR o left).1 = need (opAt o) ∧ (oneR o left).2.1 = (insC (opAt o) : Int) - delC (opAt o) := by
  have hg := opOk_gd h
  have hn := hg.need
  have hor := (oneR_law h).1 h0
  obtain ⟨hs, h2, h1⟩ := h
  unfold oneR
  rw [if_neg (by rw [hs]; simp)]
  rcases hg with ⟨k2, n, v, t, r⟩ | ⟨k2, n, t, a⟩ | ⟨k2, n, t, a⟩
  · rw [if_pos k2, if_pos (h2 k2).1]
    have hc := (h2 k2).1
    have hN : cntN o.text = (runeCount o.text : Int) := by
      unfold cntErr at hc
      unfold cntN
      split at hc
      · next h => rw [if_pos h]
      · cases hc
    rw [hn, n, opAt2 k2, insC_map, delC_map, ← count_chs]
    exact ⟨rfl, by rw [hN]; simp⟩
  · rw [if_neg (by omega), if_pos (h1 (by omega)), if_neg (by rcases hor with h | h <;> omega), if_pos k2, hn, opAt3 k2, insC_rep .del trivial, delC_dels]
    exact ⟨rfl, by dsimp only; omega⟩
  · rw [if_neg (by omega), if_pos (h1 (by omega)), if_neg (by rcases hor with h | h <;> omega), if_neg (by omega), hn, opAt1 k2, insC_rep (.keep o.attrs) trivial, delC_keeps]
    exact ⟨rfl, rfl⟩
theorem toGo_fwd : ∀ (l : List Op) (left n : Int), (∀ o ∈ l, opOk o) → (need (ats l) : Int) ≤ left → n + insC (ats l) - delC (ats l) ≤ 20000 → toGo l left n = (n + insC (ats l) - delC (ats l), 0)
  | [], left, n, _, _, hb => by
    simp only [ats_nil, insC, delC] at hb ⊢
    unfold toGo
    rw [if_neg (by omega)]
    simp
  | o :: l, left, n, ho, hl, hb => by
    have hoo := ho o (.head _)
    rw [ats_cons, need_append] at hl
    have h0 : (oneR o left).2.2 = 0 := (oneR_law hoo).2 (.inl (by omega))
    obtain ⟨v1, v2⟩ := oneR_val hoo h0
    rw [ats_cons, insC_append, delC_append] at hb ⊢
    unfold toGo
    rw [if_pos h0, v1, v2, toGo_fwd l _ _ (fun x hx => ho x (.tail _ hx)) (by omega) (by omega)]
    congr 1
    omega
theorem toGo_bwd : ∀ (l : List Op) (left n : Int), 0 ≤ left → (toGo l left n).2 = 0 → (need (ats l) : Int) ≤ left ∧ n + insC (ats l) - delC (ats l) ≤ 20000 ∧ (toGo l left n).1 = n + insC (ats l) - delC (ats l)
  | [], left, n, h0, h => by
    simp only [ats_nil, insC, delC, need]
    unfold toGo at h ⊢
    split at h
    · cases h
    · next hn => rw [if_neg hn]; exact ⟨by omega, by omega, by dsimp only; omega⟩
  | o :: l, left, n, h0, h => by
    have hok := toGo_ok (o :: l) left n h
    have hoo := hok o (.head _)
    unfold toGo at h ⊢
    split at h
    · next h1 =>
      rw [if_pos h1]
      obtain ⟨v1, v2⟩ := oneR_val hoo h1
      have hle : (need (opAt o) : Int) ≤ left := by
        rcases (oneR_law hoo).1 h1 with h | h
        · exact h
        · rw [opAt2 h, need_ins]; omega
      have ih := toGo_bwd l _ _ (by rw [v1]; omega) h
      rw [ats_cons, need_append, insC_append, delC_append]
      rw [v1, v2] at ih ⊢
      exact ⟨by omega, by omega, by rw [ih.2.2]; omega⟩
    · next h1 => exact absurd h h1

/-- Which changesets may be. -/
structure Rt (c : Change) : Prop where
  lo : 0 ≤ c.from_
  hi : c.from_ ≤ 20000
  len : c.ops.length ≤ 2000
  ok : ∀ o ∈ c.ops, opOk o
  fits : (need (ats c.ops) : Int) ≤ c.from_
  big : c.from_ + insC (ats c.ops) - delC (ats c.ops) ≤ 20000
theorem Rt.gd {c : Change} (h : Rt c) : Gds c.ops := fun o ho => opOk_gd (h.ok o ho)
theorem Rt.to {c : Change} (h : Rt c) : toR c = (c.from_ + insC (ats c.ops) - delC (ats c.ops), 0) := by
  unfold toR
  rw [if_neg (by have := h.lo; have := h.hi; omega), if_neg (by have := h.len; omega), toGo_fwd _ _ _ h.ok h.fits h.big]
theorem toR_rt {c : Change} (h : (toR c).2 = 0) : Rt c := by
  obtain ⟨h1, h2, h3, h4⟩ := toR_ok h
  have hb : (toGo c.ops c.from_ c.from_).2 = 0 := by
    unfold toR at h
    rw [if_neg (by omega), if_neg (by omega)] at h
    exact h
  obtain ⟨b1, b2, _⟩ := toGo_bwd _ _ _ h1 hb
  exact ⟨h1, h2, h3, h4, b1, b2⟩
theorem toR_iff {c : Change} : (toR c).2 = 0 ↔ Rt c := ⟨toR_rt, fun h => by rw [h.to]⟩
def gen (c : Change) : List Cell := genFrom 0 c.from_.toNat
theorem gen_len (c : Change) : (gen c).length = c.from_.toNat := by simp [gen, genFrom]
theorem gen_cs (c : Change) : CS (gen c) := genFrom_cs _ _
theorem Rt.fit {c : Change} (h : Rt c) : need (ats c.ops) ≤ (gen c).length := by rw [gen_len]; have := h.fits; have := h.lo; omega
/-- What comes of it: so many runes. -/
theorem Rt.long {c : Change} (h : Rt c) : ((act (gen c) (ats c.ops)).length : Int) = (toR c).1 := by
  have h1 := act_len (ats c.ops) (gen c) h.fit
  have h2 := gen_len c
  have h3 := h.lo
  rw [h.to]
  dsimp only
  omega
theorem Rt.nm {c : Change} (h : Rt c) : nmR c = (⟨c.from_, normL c.ops⟩, 0) := by
  unfold nmR
  rw [if_pos (toR_iff.2 h)]
theorem Rt.small {c : Change} (h : Rt c) : need (ats c.ops) ≤ 20000 := by have := h.fits; have := h.hi; omega
theorem insC_mem {l : List Op} {o : Op} (h : o ∈ l) : insC (opAt o) ≤ insC (ats l) := by
  obtain ⟨s, t, rfl⟩ := List.append_of_mem h
  rw [ats_append, insC_append, ats_cons, insC_append]
  omega
/-- Of operations that may be, of any length, a changeset that may be. -/
theorem rt_of {f : Int} {l : List Op} (h0 : 0 ≤ f) (h1 : f ≤ 20000) (hl : l.length ≤ 2000) (hg : Gds l) (hn : (need (ats l) : Int) ≤ f) (hb : ((act (genFrom 0 f.toNat) (ats l)).length : Int) ≤ 20000) : Rt ⟨f, l⟩ := by
  have e := act_len (ats l) (genFrom 0 f.toNat) (by simp [genFrom]; omega)
  have e2 : (genFrom 0 f.toNat).length = f.toNat := by simp [genFrom]
  have e3 := delC_le (ats l)
  refine ⟨h0, h1, hl, fun o ho => gd_opOk (hg o ho) ?_, hn, ?_⟩
  · have : insC (opAt o) ≤ insC (ats l) := insC_mem ho
    omega
  · show f + insC (ats l) - delC (ats l) ≤ 20000
    omega
end Go.Proofs.YtaemajcpgmaapaaDoor

namespace Go.Proofs.YtaemajcpgmaapaaDoor
open Go.RowKit
open Go.Lib

/-- How long the writer says what comes of it is. -/
def lStep (n : Int) (o : Op) : Int := if o.kind = 2 then wrap64 (n + runeCount o.text) else if o.kind = 3 then wrap64 (n - o.n) else n
def folOut (first : Bool) (a b : Change) : List Op := folGo first (ms (normL a.ops) + ms (normL b.ops)) (normL a.ops) (normL b.ops)
/-- follow.Follow: the changeset, its error. -/
def folR (first : Bool) (a b : Change) : Change × Int :=
  if (toR a).2 ≠ 0 then (⟨0, []⟩, (toR a).2)
  else if (toR b).2 ≠ 0 then (⟨0, []⟩, (toR b).2)
  else if a.from_ ≠ b.from_ then (⟨0, []⟩, 31)
  else if 20000 < (folOut first a b).foldl lStep (toR a).1 then (⟨0, []⟩, 3)
  else if 2000 < (normL (folOut first a b)).length then (⟨0, []⟩, 2)
  else (⟨(toR a).1, normL (folOut first a b)⟩, 0)

/-- The normal form is no longer. -/
theorem putL_len (l : List Op) (o : Op) : (putL l o).length ≤ l.length + 1 := (putL_bd (M := (l.map fun x => x.text.size).sum) (fun x hx => by
  induction l with
  | nil => cases hx
  | cons a l ih =>
    simp only [List.map_cons, List.sum_cons]
    cases hx with
    | head => omega
    | tail _ hx => have := ih hx; omega)).1
def wt (g : Int) : Nat := if 0 < g then 1 else 0
theorem fold_len : ∀ (ops l : List Op) (g : Int), Gds ops → 0 ≤ g → g + need (ats ops) ≤ 4611686018427387904 →
    (ops.foldl nStep (l, g)).1.length + wt (ops.foldl nStep (l, g)).2 ≤ l.length + wt g + ops.length
  | [], l, g, _, _, _ => by simp
  | o :: ops, l, g, ho, hg, hb => by
    have hn := (ho o (.head _)).need
    rw [ats_cons, need_append] at hb
    simp only [List.foldl_cons, List.length_cons]
    rcases ho o (.head _) with ⟨k1, n1, _⟩ | ⟨k1, n1, _⟩ | ⟨k1, n1, _⟩
    · have e : nStep (l, g) o = (putL l o, g) := by unfold nStep; rw [if_neg (by omega), if_pos k1]
      rw [e]
      have := fold_len ops (putL l o) g ho.tail hg (by omega)
      have := putL_len l o
      omega
    · have e : nStep (l, g) o = (l, g + o.n) := by
        unfold nStep; rw [if_neg (by omega), if_neg (by omega), if_pos k1]
        dsimp only
        rw [w64 (by omega) (by omega)]
      rw [e]
      have := fold_len ops l (g + o.n) ho.tail (by omega) (by omega)
      have h1 : wt (g + o.n) = 1 := if_pos (by omega)
      omega
    · have hf : (flushL (l, g)).1.length ≤ l.length + wt g ∧ (flushL (l, g)).2 = 0 := by
        unfold flushL wt
        by_cases h : 0 < g
        · rw [if_pos h, if_pos h]; exact ⟨putL_len _ _, rfl⟩
        · rw [if_neg h, if_neg h]; exact ⟨by simp, by dsimp only; omega⟩
      have e : nStep (l, g) o = (putL (flushL (l, g)).1 o, 0) := by unfold nStep; rw [if_pos k1, hf.2]
      rw [e]
      have := fold_len ops (putL (flushL (l, g)).1 o) 0 ho.tail (by omega) (by omega)
      have := putL_len (flushL (l, g)).1 o
      have h0 : wt 0 = 0 := rfl
      omega
theorem trimL_len (l : List Op) : (trimL l).length ≤ l.length := by
  unfold trimL
  split
  · exact Nat.le_refl _
  · split
    · rw [List.length_dropLast]; omega
    · exact Nat.le_refl _
theorem normL_len {ops : List Op} (h : Gds ops) (hb : need (ats ops) ≤ 4611686018427387904) : (normL ops).length ≤ ops.length := by
  have h1 := fold_len ops [] 0 h (by omega) (by omega)
  have h3 := (fold_law ops [] 0 h (fun _ h => by cases h) trivial (by omega) (by rw [ats_nil, need]; omega)).2.2.1
  unfold normL normS
  refine Nat.le_trans (trimL_len _) ?_
  generalize ops.foldl nStep ([], 0) = s at *
  obtain ⟨l, g⟩ := s
  have h0 : wt 0 = 0 := rfl
  dsimp only at h1 h3
  unfold flushL
  by_cases hg : 0 < g
  · rw [if_pos hg]
    have h2 := putL_len l ⟨3, g, ⟨#[]⟩, []⟩
    have : wt g = 1 := if_pos hg
    dsimp only at h2 ⊢
    rw [List.length_nil] at h1
    omega
  · rw [if_neg hg]
    rw [List.length_nil] at h1
    dsimp only
    omega
theorem fold_long : ∀ (l : List Op) (n : Int), Gds l → (need (ats l) : Int) ≤ n → n + insC (ats l) ≤ 4611686018427387904 → l.foldl lStep n = n + insC (ats l) - delC (ats l)
  | [], n, _, _, _ => by simp [ats, insC, delC]
  | o :: l, n, h, hn, hb => by
    have ho := h o (.head _)
    have hnd := ho.need
    rw [ats_cons, need_append] at hn
    rw [ats_cons, insC_append] at hb
    rw [ats_cons, insC_append, delC_append, List.foldl_cons]
    rcases ho with ⟨k, n1, _⟩ | ⟨k, n1, _⟩ | ⟨k, n1, _⟩
    · have e : lStep n o = n + insC (opAt o) := by
        unfold lStep
        rw [opAt2 k, insC_map, if_pos k, count_chs, w64 (by omega)]
        rw [opAt2 k, insC_map] at hb
        omega
      have e0 : delC (opAt o) = 0 := by rw [opAt2 k, delC_map]
      rw [e, fold_long l _ h.tail (by omega) (by omega)]
      omega
    · have e : lStep n o = n - o.n := by
        unfold lStep
        rw [if_neg (by omega), if_pos k, w64 (by omega) (by omega)]
      have e0 : (delC (opAt o) : Int) = o.n := by rw [opAt3 k, delC_dels]; omega
      have e1 : insC (opAt o) = 0 := by rw [opAt3 k, insC_rep .del trivial]
      rw [e, fold_long l _ h.tail (by omega) (by omega)]
      omega
    · have e : lStep n o = n := by unfold lStep; rw [if_neg (by omega), if_neg (by omega)]
      have e0 : delC (opAt o) = 0 := by rw [opAt1 k, delC_keeps]
      have e1 : insC (opAt o) = 0 := by rw [opAt1 k, insC_rep (.keep o.attrs) trivial]
      rw [e, fold_long l _ h.tail (by omega) (by omega)]
      omega
theorem insC_trimA : ∀ x, insC (trimA x) = insC x
  | [] => rfl
  | a :: x => by
    have ih := insC_trimA x
    unfold trimA
    split
    · next h => rw [h.2] at ih; rw [h.1]; simpa [insC] using ih
    · cases a <;> simp [insC, ih]
theorem insC_cn : ∀ x g, insC (cn x g) = insC x
  | [], g => by simp [cn, insC, insC_rep .del trivial]
  | .ins _ _ :: r, g => by simp [cn, insC, insC_cn r g]
  | .del :: r, g => by simp [cn, insC, insC_cn r (g + 1)]
  | .keep _ :: r, g => by simp [cn, insC, insC_append, insC_cn r 0, insC_rep .del trivial]
theorem Rt.ins {c : Change} (h : Rt c) : insC (ats c.ops) ≤ 20000 := by
  have := h.big; have := h.fits; have := delC_le (ats c.ops); omega
theorem Rt.small' {c : Change} (h : Rt c) : need (ats c.ops) ≤ 4611686018427387904 := by have := h.small; omega
theorem Rt.nG {c : Change} (h : Rt c) : Gds (normL c.ops) := (normL_law h.gd h.small').1
theorem Rt.nAts {c : Change} (h : Rt c) : ats (normL c.ops) = trimA (cn (ats c.ops) 0) := (normL_law h.gd h.small').2.2.1
theorem Rt.nNeed {c : Change} (h : Rt c) : need (ats (normL c.ops)) ≤ need (ats c.ops) := need_normL h.gd h.small'
theorem Rt.nIns {c : Change} (h : Rt c) : insC (ats (normL c.ops)) = insC (ats c.ops) := by rw [h.nAts, insC_trimA, insC_cn]
theorem Rt.nAct {c : Change} (h : Rt c) (L : List Cell) (hL : CS L) : act L (ats (normL c.ops)) = act L (ats c.ops) := act_normL h.gd h.small' L hL
theorem Rt.nLen {c : Change} (h : Rt c) : (normL c.ops).length ≤ 2000 := Nat.le_trans (normL_len h.gd h.small') h.len
/-- A changeset's normal form may be. -/
theorem Rt.norm {c : Change} (h : Rt c) : Rt ⟨c.from_, normL c.ops⟩ := by
  refine rt_of h.lo h.hi h.nLen h.nG (by have := h.nNeed; have := h.fits; omega) ?_
  rw [h.nAct _ (genFrom_cs _ _)]
  have h1 : ((act (genFrom 0 c.from_.toNat) (ats c.ops)).length : Int) = (toR c).1 := h.long
  have h2 : (toR c).1 = c.from_ + insC (ats c.ops) - delC (ats c.ops) := by rw [h.to]
  have := h.big
  show ((act (genFrom 0 c.from_.toNat) (ats c.ops)).length : Int) ≤ 20000
  omega

theorem insC_fol (first : Bool) (x y : List At) : insC (folA first x y) = insC y := by
  match x, y with
  | [], [] => simp only [folA]
  | .ins c a :: x, [] => rw [folA]; exact insC_fol first x []
  | .del :: x, [] => rw [folA]; exact insC_fol first x []
  | .keep u :: x, [] => rw [folA]; exact insC_fol first x []
  | [], .ins c a :: y => rw [folA]; simp only [insC]; rw [insC_fol first [] y]
  | [], .del :: y => rw [folA]; exact insC_fol first [] y
  | [], .keep u :: y => rw [folA]; exact insC_fol first [] y
  | .ins c a :: x, .ins d b :: y =>
    rw [folA]
    split
    · simp only [insC]; rw [insC_fol first (.ins c a :: x) y]
    · simp only [insC]; rw [insC_fol first x (.ins d b :: y)]; rfl
  | .ins c a :: x, .del :: y => rw [folA]; exact insC_fol first x (.del :: y)
  | .ins c a :: x, .keep v :: y => rw [folA]; exact insC_fol first x (.keep v :: y)
  | .del :: x, .ins d b :: y => rw [folA]; simp only [insC]; rw [insC_fol first (.del :: x) y]
  | .keep u :: x, .ins d b :: y => rw [folA]; simp only [insC]; rw [insC_fol first (.keep u :: x) y]
  | .del :: x, .del :: y => rw [folA]; exact insC_fol first x y
  | .del :: x, .keep v :: y => rw [folA]; exact insC_fol first x y
  | .keep u :: x, .del :: y => rw [folA]; exact insC_fol first x y
  | .keep u :: x, .keep v :: y => rw [folA]; exact insC_fol first x y
termination_by x.length + y.length

/-- What Follow writes. -/
structure FolS (first : Bool) (a b : Change) : Prop where
  gd : Gds (folOut first a b)
  at_ : ats (folOut first a b) = folA first (ats (normL a.ops)) (ats (normL b.ops))
  need_ : need (ats (folOut first a b)) ≤ (act (gen a) (ats a.ops)).length
  long : (folOut first a b).foldl lStep (toR a).1 = ((act (act (gen a) (ats a.ops)) (ats (folOut first a b))).length : Int)
theorem fol_spec {first : Bool} {a b : Change} (ha : Rt a) (hb : Rt b) (hf : a.from_ = b.from_) : FolS first a b := by
  have hna := ha.nNeed
  have hnb := hb.nNeed
  have sa := ha.small
  have sb := hb.small
  obtain ⟨g, e⟩ := folGo_law first _ (normL a.ops) (normL b.ops) ha.nG hb.nG (by omega) (by omega) (Nat.le_refl _)
  have fa := ha.fit
  have fb := hb.fit
  have gl : (gen a).length = (gen b).length := by rw [gen_len, gen_len, hf]
  have hn : need (ats (folOut first a b)) ≤ (act (gen a) (ats a.ops)).length := by
    unfold folOut
    rw [e, ← ha.nAct _ (gen_cs a)]
    exact fol_need first _ _ (gen a) (by omega) (by omega)
  refine ⟨g, e, hn, ?_⟩
  have hl := ha.long
  have hi : insC (ats (folOut first a b)) = insC (ats b.ops) := by
    unfold folOut; rw [e, insC_fol, hb.nIns]
  have := hb.ins
  have hbig : (toR a).1 ≤ 20000 := by rw [ha.to]; exact ha.big
  rw [fold_long (folOut first a b) _ g (by omega) (by omega)]
  have := act_len (ats (folOut first a b)) (act (gen a) (ats a.ops)) hn
  omega
theorem folR_ok {first : Bool} {a b : Change} (h : (folR first a b).2 = 0) : Rt a ∧ Rt b ∧ a.from_ = b.from_ ∧ folR first a b = (⟨(toR a).1, normL (folOut first a b)⟩, 0) ∧
    (folOut first a b).foldl lStep (toR a).1 ≤ 20000 ∧ (normL (folOut first a b)).length ≤ 2000 := by
  unfold folR at h ⊢
  split at h
  · next h1 => exact absurd h h1
  · next h1 =>
    rw [if_neg h1]
    split at h
    · next h2 => exact absurd h h2
    · next h2 =>
      rw [if_neg h2]
      split at h
      · exact absurd h (by decide)
      · next h3 =>
        rw [if_neg h3]
        split at h
        · exact absurd h (by decide)
        · next h4 =>
          rw [if_neg h4]
          split at h
          · exact absurd h (by decide)
          · next h5 =>
            rw [if_neg h5]
            exact ⟨toR_rt (by simpa using h1), toR_rt (by simpa using h2), by simpa using h3, rfl, by omega, by omega⟩
theorem folR_of {first : Bool} {a b : Change} (ha : Rt a) (hb : Rt b) (hf : a.from_ = b.from_) (h1 : (folOut first a b).foldl lStep (toR a).1 ≤ 20000) (h2 : (normL (folOut first a b)).length ≤ 2000) :
    folR first a b = (⟨(toR a).1, normL (folOut first a b)⟩, 0) := by
  unfold folR
  rw [if_neg (by simp [toR_iff.2 ha]), if_neg (by simp [toR_iff.2 hb]), if_neg (by simp [hf]), if_neg (by omega), if_neg (by omega)]
/-- What follows may be, in its normal form; it makes of what a makes the cells that both make. -/
theorem fol_fits {first : Bool} {a b : Change} (h : (folR first a b).2 = 0) :
    Rt (folR first a b).1 ∧ (folR first a b).1.from_ = (toR a).1 ∧ normL (folR first a b).1.ops = (folR first a b).1.ops ∧
      act (act (gen a) (ats a.ops)) (ats (folR first a b).1.ops) = act (act (gen a) (ats (normL a.ops))) (folA first (ats (normL a.ops)) (ats (normL b.ops))) := by
  obtain ⟨ha, hb, hf, e, h1, h2⟩ := folR_ok h
  have S : FolS first a b := fol_spec ha hb hf
  have hl := ha.long
  have h0 : 0 ≤ (toR a).1 := by omega
  have hbig : (toR a).1 ≤ 20000 := by rw [ha.to]; exact ha.big
  have hsm : need (ats (folOut first a b)) ≤ 4611686018427387904 := by have := S.need_; omega
  have hcs : CS (act (gen a) (ats a.ops)) := act_cs _ _ (as_ats ha.gd) (gen_cs a)
  have hact := act_normL S.gd hsm _ hcs
  rw [e]
  refine ⟨?_, rfl, normL_idem S.gd hsm, ?_⟩
  · refine rt_of h0 hbig h2 (normL_law S.gd hsm).1 (by have := need_normL S.gd hsm; have := S.need_; omega) ?_
    have e1 := act_len (ats (normL (folOut first a b))) (genFrom 0 (toR a).1.toNat) (by simp [genFrom]; have := need_normL S.gd hsm; have := S.need_; omega)
    have e2 := act_len (ats (normL (folOut first a b))) (act (gen a) (ats a.ops)) (by have := need_normL S.gd hsm; have := S.need_; omega)
    have e3 : (genFrom 0 (toR a).1.toNat).length = (toR a).1.toNat := by simp [genFrom]
    rw [hact] at e2
    have := S.long
    omega
  · dsimp only
    rw [hact, S.at_, ha.nAct _ (gen_cs a)]
theorem attrsEq_refl (l : List Attr) : attrsEq l l = true := by simp [attrsEq]
end Go.Proofs.YtaemajcpgmaapaaDoor

namespace Go.Proofs.YtaemajcpgmaapaaDoor
open Go.RowKit
open Go.Lib

/-- Both ways come to one length. -/
theorem fol_long {first : Bool} {a b : Change} (h : (folR first a b).2 = 0) (k : (folR (!first) b a).2 = 0) :
    (toR (folR first a b).1).2 = 0 ∧ (toR (folR (!first) b a).1).2 = 0 ∧ (toR (folR first a b).1).1 = (toR (folR (!first) b a).1).1 := by
  obtain ⟨r1, f1, _, e1⟩ := fol_fits h
  obtain ⟨r2, f2, _, e2⟩ := fol_fits k
  obtain ⟨ha, hb, hf, _⟩ := folR_ok h
  refine ⟨toR_iff.2 r1, toR_iff.2 r2, ?_⟩
  have g : gen a = gen b := by unfold gen; rw [hf]
  have hm := fol_meets first (ats (normL a.ops)) (ats (normL b.ops)) (gen a) (as_ats ha.nG) (as_ats hb.nG) (gen_cs a) (by have := ha.nNeed; have := ha.fit; omega) (by have := hb.nNeed; have := hb.fit; rw [g]; omega)
  rw [g] at hm e1
  rw [← hm, ← e1] at e2
  have l1 := act_len (ats (folR first a b).1.ops) (act (gen b) (ats a.ops)) (by have := r1.fits; have := ha.long; rw [g] at this; rw [f1] at *; omega)
  have l2 := act_len (ats (folR (!first) b a).1.ops) (act (gen b) (ats b.ops)) (by have := r2.fits; have := hb.long; rw [f2] at *; omega)
  rw [e2] at l2
  have t1 : (toR (folR first a b).1).1 = (folR first a b).1.from_ + insC (ats (folR first a b).1.ops) - delC (ats (folR first a b).1.ops) := by rw [r1.to]
  have t2 : (toR (folR (!first) b a).1).1 = (folR (!first) b a).1.from_ + insC (ats (folR (!first) b a).1.ops) - delC (ats (folR (!first) b a).1.ops) := by rw [r2.to]
  have h1 := ha.long
  have h2 := hb.long
  rw [g] at h1
  omega

/-- What follows nothing. -/
theorem folA_nil (first : Bool) : ∀ y : List At, folA first [] y = y
  | [] => by simp only [folA]
  | .ins c a :: y => by rw [folA, folA_nil first y]
  | .del :: y => by rw [folA, folA_nil first y]
  | .keep u :: y => by rw [folA, folA_nil first y]
theorem folA_nilR (first : Bool) : ∀ x : List At, ∃ k, folA first x [] = List.replicate k (.keep [])
  | [] => ⟨0, by simp only [folA]; rfl⟩
  | .ins c a :: x => by
    obtain ⟨k, e⟩ := folA_nilR first x
    exact ⟨k + 1, by rw [folA, e, List.replicate_succ]⟩
  | .del :: x => by
    obtain ⟨k, e⟩ := folA_nilR first x
    exact ⟨k, by rw [folA, e]⟩
  | .keep u :: x => by
    obtain ⟨k, e⟩ := folA_nilR first x
    exact ⟨k + 1, by rw [folA, e, List.replicate_succ]⟩
theorem rt_none {n : Int} (h0 : 0 ≤ n) (h1 : n ≤ 20000) : Rt ⟨n, []⟩ :=
  ⟨h0, h1, by simp, fun _ h => (by cases h), by simpa [ats, need] using h0, by simpa [ats, insC, delC] using h1⟩
theorem normL_nil : normL [] = [] := rfl
theorem folR_none {first : Bool} {a : Change} (h : Rt a) : folR first ⟨a.from_, []⟩ a = (⟨a.from_, normL a.ops⟩, 0) := by
  have hn := rt_none h.lo h.hi
  have S : FolS first ⟨a.from_, []⟩ a := fol_spec hn h rfl
  have e0 := S.at_
  rw [show normL (⟨a.from_, []⟩ : Change).ops = [] from rfl, ats_nil, folA_nil] at e0
  have t0 : (toR ⟨a.from_, []⟩).1 = a.from_ := by rw [hn.to]; simp [ats, insC, delC]
  have hsm : need (ats (folOut first ⟨a.from_, []⟩ a)) ≤ 4611686018427387904 := by rw [e0]; have := h.nNeed; have := h.small; omega
  have hsm2 : need (ats (normL a.ops)) ≤ 4611686018427387904 := by have := h.nNeed; have := h.small; omega
  have e1 : normL (folOut first ⟨a.from_, []⟩ a) = normL a.ops := by
    rw [(normL_law S.gd hsm).2.2.2, e0, ← (normL_law h.nG hsm2).2.2.2, normL_idem h.gd h.small']
  have hl := S.long
  rw [e0, h.nAct] at hl
  · have h3 := h.long
    have h4 := h.big
    have h5 : (toR a).1 = a.from_ + insC (ats a.ops) - delC (ats a.ops) := by rw [h.to]
    have e2 : act (gen ⟨a.from_, []⟩) (ats (⟨a.from_, []⟩ : Change).ops) = gen a := by
      show act (gen a) [] = gen a
      simp only [act]
    rw [e2, h3] at hl
    rw [folR_of hn h rfl (by omega) (by rw [e1]; exact h.nLen), e1, t0]
  · exact act_cs _ _ .nil (gen_cs _)
theorem folR_noneR {first : Bool} {a : Change} (h : Rt a) : folR first a ⟨a.from_, []⟩ = (⟨(toR a).1, []⟩, 0) := by
  have hn := rt_none h.lo h.hi
  have S : FolS first a ⟨a.from_, []⟩ := fol_spec h hn rfl
  obtain ⟨k, e0⟩ := folA_nilR first (ats (normL a.ops))
  have e := S.at_
  rw [show normL (⟨a.from_, []⟩ : Change).ops = [] from rfl, ats_nil, e0] at e
  have hcs : CS (act (gen a) (ats a.ops)) := act_cs _ _ (as_ats h.gd) (gen_cs a)
  have hsm : need (ats (folOut first a ⟨a.from_, []⟩)) ≤ 4611686018427387904 := by
    have := S.need_
    have := h.long
    have h4 := h.big
    have h5 : (toR a).1 = a.from_ + insC (ats a.ops) - delC (ats a.ops) := by rw [h.to]
    omega
  have e1 : normL (folOut first a ⟨a.from_, []⟩) = [] := by
    rw [(normL_law S.gd hsm).2.2.2, e, cn_pads, trimA_keeps]
    rfl
  have hl := S.long
  rw [e, act_keeps _ _ hcs, h.long] at hl
  have h4 := h.big
  have h5 : (toR a).1 = a.from_ + insC (ats a.ops) - delC (ats a.ops) := by rw [h.to]
  rw [folR_of h hn rfl (by omega) (by rw [e1]; simp), e1]

/-- Inserts alone. -/
def insOnly : List At → List At
  | [] => []
  | .ins c a :: r => .ins c a :: insOnly r
  | .del :: r => insOnly r
  | .keep _ :: r => insOnly r
theorem insOnly_append : ∀ x y, insOnly (x ++ y) = insOnly x ++ insOnly y
  | [], y => rfl
  | .ins c a :: x, y => by simp [insOnly, insOnly_append x y]
  | .del :: x, y => by simp [insOnly, insOnly_append x y]
  | .keep _ :: x, y => by simp [insOnly, insOnly_append x y]
theorem folA_gone (first : Bool) : ∀ (y : List At) (n : Nat), need y ≤ n → folA first (List.replicate n .del) y = insOnly y
  | [], 0, _ => by simp only [List.replicate_zero, folA, insOnly]
  | [], n + 1, h => by
    have := folA_gone first [] n (by simp [need])
    rw [List.replicate_succ, folA, this]
  | .ins c a :: y, 0, h => by
    have := folA_gone first y 0 h
    rw [List.replicate_zero, folA, insOnly]
    rw [List.replicate_zero] at this
    rw [this]
  | .ins c a :: y, n + 1, h => by
    have := folA_gone first y (n + 1) h
    rw [List.replicate_succ] at this ⊢
    rw [folA, insOnly, this]
  | .del :: y, 0, h => by simp [need] at h
  | .del :: y, n + 1, h => by
    have := folA_gone first y n (by simpa [need] using h)
    rw [List.replicate_succ, folA, insOnly, this]
  | .keep u :: y, 0, h => by simp [need] at h
  | .keep u :: y, n + 1, h => by
    have := folA_gone first y n (by simpa [need] using h)
    rw [List.replicate_succ, folA, insOnly, this]
/-- The text of the inserts. -/
def txtA : List At → List UInt8
  | [] => []
  | .ins c _ :: r => c ++ txtA r
  | .del :: r => txtA r
  | .keep _ :: r => txtA r
theorem txtA_append : ∀ x y, txtA (x ++ y) = txtA x ++ txtA y
  | [], y => rfl
  | .ins c a :: x, y => by simp [txtA, txtA_append x y]
  | .del :: x, y => by simp [txtA, txtA_append x y]
  | .keep _ :: x, y => by simp [txtA, txtA_append x y]
theorem txtA_dels : ∀ n, txtA (List.replicate n .del) = []
  | 0 => rfl
  | n + 1 => by rw [List.replicate_succ]; exact txtA_dels n
theorem txtA_keeps (u : List Attr) : ∀ n, txtA (List.replicate n (.keep u)) = []
  | 0 => rfl
  | n + 1 => by rw [List.replicate_succ]; exact txtA_keeps u n
theorem txtA_map (a : List Attr) : ∀ cs : List (List UInt8), txtA (cs.map fun c => .ins c a) = cs.flatten
  | [] => rfl
  | c :: cs => by simp [txtA, txtA_map a cs]
theorem txtA_insOnly : ∀ x, txtA (insOnly x) = txtA x
  | [] => rfl
  | .ins c a :: x => by simp [txtA, insOnly, txtA_insOnly x]
  | .del :: x => by simp [txtA, insOnly, txtA_insOnly x]
  | .keep _ :: x => by simp [txtA, insOnly, txtA_insOnly x]
theorem txtA_cn : ∀ x g, txtA (cn x g) = txtA x
  | [], g => by rw [cn, txtA_dels]; rfl
  | .ins c a :: x, g => by simp [cn, txtA, txtA_cn x g]
  | .del :: x, g => by simp [cn, txtA, txtA_cn x (g + 1)]
  | .keep _ :: x, g => by simp [cn, txtA, txtA_append, txtA_dels, txtA_cn x 0]
theorem txtA_trimA : ∀ x, txtA (trimA x) = txtA x
  | [] => rfl
  | a :: x => by
    have ih := txtA_trimA x
    unfold trimA
    split
    · next h => rw [h.2] at ih; rw [h.1]; simpa [txtA] using ih
    · cases a <;> simp [txtA, ih]
/-- The operations' texts, one behind another. -/
def txtO (l : List Op) : ByteArray := l.foldl (fun s o => s ++ o.text) ⟨#[]⟩
theorem txtO_go : ∀ (l : List Op) (s : ByteArray), (l.foldl (fun s o => s ++ o.text) s).data.toList = s.data.toList ++ (l.map fun o => o.text.data.toList).flatten
  | [], s => by simp
  | o :: l, s => by rw [List.foldl_cons, txtO_go l (s ++ o.text), data_append]; simp
theorem txtO_ats {l : List Op} (h : Gds l) : (l.map fun o => o.text.data.toList).flatten = txtA (ats l) := by
  induction l with
  | nil => rfl
  | cons o l ih =>
    rw [ats_cons, txtA_append, List.map_cons, List.flatten_cons, ih h.tail]
    congr 1
    rcases h o (.head _) with ⟨k, _⟩ | ⟨k, _, t, _⟩ | ⟨k, _, t, _⟩
    · rw [opAt2 k, txtA_map, chs_flatten]
    · rw [opAt3 k, txtA_dels, t]
    · rw [opAt1 k, txtA_keeps, t]
theorem txtO_eq {l m : List Op} (hl : Gds l) (hm : Gds m) (h : txtA (ats l) = txtA (ats m)) : txtO l = txtO m := by
  apply toList_inj
  rw [ByteArray.toList_eq, ByteArray.toList_eq]
  unfold txtO
  rw [txtO_go, txtO_go, txtO_ats hl, txtO_ats hm, h]
/-- The changeset that takes all away. -/
def allGone (n : Int) : Change := ⟨n, [⟨3, n, ⟨#[]⟩, []⟩]⟩
theorem rt_gone {n : Int} (h0 : 0 < n) (h1 : n ≤ 20000) : Rt (allGone n) ∧ ats (allGone n).ops = List.replicate n.toNat .del ∧ (toR (allGone n)).1 = 0 := by
  have hg : Gd ⟨3, n, ⟨#[]⟩, []⟩ := .inr (.inl ⟨rfl, h0, rfl, rfl⟩)
  have e : ats (allGone n).ops = List.replicate n.toNat .del := by unfold allGone; rw [ats_one, opAt3 rfl]
  have r : Rt (allGone n) := by
    refine ⟨by show 0 ≤ n; omega, h1, by simp [allGone], fun o ho => ?_, ?_, ?_⟩
    · simp [allGone] at ho
      subst ho
      exact gd_opOk hg (by rw [opAt3 rfl, insC_rep .del trivial]; omega)
    · rw [e, need_dels]; show (n.toNat : Int) ≤ n; omega
    · rw [e, insC_rep .del trivial, delC_dels]; show n + 0 - (n.toNat : Int) ≤ 20000; omega
  refine ⟨r, e, ?_⟩
  rw [r.to, e, insC_rep .del trivial, delC_dels]
  show n + 0 - (n.toNat : Int) = 0
  omega
theorem insOnly_noneed : ∀ x, need (insOnly x) = 0
  | [] => rfl
  | .ins _ _ :: x => insOnly_noneed x
  | .del :: x => insOnly_noneed x
  | .keep _ :: x => insOnly_noneed x
/-- A row of inserts alone is as it is. -/
theorem cn_insOnly : ∀ x, cn (insOnly x) 0 = insOnly x
  | [] => rfl
  | .ins c a :: x => by simp [insOnly, cn, cn_insOnly x]
  | .del :: x => by simp [insOnly, cn_insOnly x]
  | .keep _ :: x => by simp [insOnly, cn_insOnly x]
theorem trimA_insOnly : ∀ x, trimA (insOnly x) = insOnly x
  | [] => rfl
  | .ins c a :: x => by simp [insOnly, trimA, trimA_insOnly x]
  | .del :: x => by simp [insOnly, trimA_insOnly x]
  | .keep _ :: x => by simp [insOnly, trimA_insOnly x]
theorem ats_filter {l : List Op} (h : Gds l) : ats (l.filter fun o => o.kind == 2) = insOnly (ats l) := by
  have hm : ∀ (a : List Attr) (cs : List (List UInt8)), insOnly (cs.map fun c => .ins c a) = cs.map fun c => .ins c a := fun a cs => by
    induction cs with
    | nil => rfl
    | cons c cs ih => simp [insOnly, ih]
  have hr : ∀ (s : At), NoI s → ∀ n, insOnly (List.replicate n s) = [] := fun s hs n => by
    induction n with
    | zero => rfl
    | succ n ih =>
      rw [List.replicate_succ]
      cases s with
      | ins => exact hs.elim
      | del => exact ih
      | keep => exact ih
  induction l with
  | nil => rfl
  | cons o l ih =>
    rw [ats_cons, insOnly_append, ← ih h.tail]
    rcases h o (.head _) with ⟨k, _⟩ | ⟨k, _⟩ | ⟨k, _⟩
    · rw [List.filter_cons_of_pos (by simp [k]), ats_cons, opAt2 k, hm]
    · rw [List.filter_cons_of_neg (by simp [k]), opAt3 k, hr .del trivial]; rfl
    · rw [List.filter_cons_of_neg (by simp [k]), opAt1 k, hr (.keep o.attrs) trivial]; rfl
theorem fol_gone {first : Bool} {b : Change} (h : Rt b) (h0 : b.from_ ≠ 0) :
    (folR first (allGone b.from_) b).2 = 0 ∧ (folR first (allGone b.from_) b).1.from_ = 0 ∧ (∀ o ∈ (folR first (allGone b.from_) b).1.ops, o.kind = 2) ∧ txtO (folR first (allGone b.from_) b).1.ops = txtO b.ops := by
  obtain ⟨r, e, t0⟩ := rt_gone (n := b.from_) (by have := h.lo; omega) h.hi
  have S : FolS first (allGone b.from_) b := fol_spec r h rfl
  have e1 : ats (folOut first (allGone b.from_) b) = insOnly (ats (normL b.ops)) := by
    have hc := cn_dels [] b.from_.toNat 0
    rw [List.append_nil, Nat.zero_add] at hc
    have ht : trimA (List.replicate b.from_.toNat At.del) = List.replicate b.from_.toNat .del := by
      generalize b.from_.toNat = k
      induction k with
      | zero => rfl
      | succ k ih => rw [List.replicate_succ, trimA, ih, if_neg (by simp)]
    rw [S.at_, r.nAts, e, hc, cn, ht, folA_gone]
    have := h.nNeed
    have := h.fits
    omega
  have hsm : need (ats (folOut first (allGone b.from_) b)) ≤ 4611686018427387904 := by rw [e1, insOnly_noneed]; omega
  have hN := normL_law S.gd hsm
  rw [e1, cn_insOnly, trimA_insOnly] at hN
  have hfg : Gds ((normL b.ops).filter fun o => o.kind == 2) := fun o ho => h.nG o (List.mem_filter.1 ho).1
  have hfn : need (ats ((normL b.ops).filter fun o => o.kind == 2)) ≤ 4611686018427387904 := by rw [ats_filter h.nG, insOnly_noneed]; omega
  have hF := normL_law hfg hfn
  rw [ats_filter h.nG, cn_insOnly, trimA_insOnly] at hF
  have hlen : (normL (folOut first (allGone b.from_) b)).length ≤ 2000 := by
    rw [hN.2.2.2, ← hF.2.2.2]
    refine Nat.le_trans (normL_len hfg hfn) (Nat.le_trans (List.length_filter_le _ _) h.nLen)
  have hlong : (folOut first (allGone b.from_) b).foldl lStep (toR (allGone b.from_)).1 ≤ 20000 := by
    rw [S.long, e, e1]
    have l1 := act_len (List.replicate b.from_.toNat .del) (gen (allGone b.from_)) (by rw [← e]; exact r.fit)
    have l0 := gen_len (allGone b.from_)
    rw [insC_rep .del trivial, delC_dels] at l1
    have l2 := act_len (insOnly (ats (normL b.ops))) (act (gen (allGone b.from_)) (List.replicate b.from_.toNat .del)) (by rw [insOnly_noneed]; omega)
    have hi : insC (insOnly (ats (normL b.ops))) = insC (ats (normL b.ops)) := by
      generalize ats (normL b.ops) = x
      induction x with
      | nil => rfl
      | cons s x ih => cases s <;> simp [insOnly, insC, ih]
    rw [hi, h.nIns] at l2
    have := h.ins
    have l0' : (gen (allGone b.from_)).length = b.from_.toNat := l0
    omega
  rw [folR_of r h rfl hlong hlen]
  refine ⟨rfl, t0, fun o ho => ?_, ?_⟩
  · have hmem : opAt o ≠ [] := (hN.1 o ho).ne
    have hsub : ∀ s ∈ opAt o, s ∈ insOnly (ats (normL b.ops)) := fun s hs => by rw [← hN.2.2.1]; exact List.mem_flatMap.2 ⟨o, ho, hs⟩
    have hio : ∀ (x : List At) (s : At), s ∈ insOnly x → ¬ NoI s := fun x s => by
      induction x with
      | nil => intro h; cases h
      | cons a x ih =>
        cases a with
        | ins c a =>
          intro h
          cases h with
          | head => exact fun h => h
          | tail _ h => exact ih h
        | del => exact ih
        | keep => exact ih
    rcases hN.1 o ho with ⟨k, _⟩ | ⟨k, n, _⟩ | ⟨k, n, _⟩
    · exact k
    · exact absurd trivial (hio _ .del (hsub _ (by rw [opAt3 k]; simp; omega)))
    · exact absurd trivial (hio _ (.keep o.attrs) (hsub _ (by rw [opAt1 k]; simp; omega)))
  · refine txtO_eq hN.1 h.gd ?_
    dsimp only
    rw [hN.2.2.1, txtA_insOnly, h.nAts, txtA_trimA, txtA_cn]
end Go.Proofs.YtaemajcpgmaapaaDoor

namespace Go.Proofs.YtaemajcpgmaapaaDoor
open Go.RowKit
open Go.Lib

/-- Between two rounds: out is written, X and Y are left. -/
structure FRel (first : Bool) (F : List Op) (ra : Int) (K0 : Nat) (X Y : List Op) (s : List Op × Int) (long : Int) (k : Nat) : Prop where
  m : ms X + ms Y ≤ k
  gx : Gds X
  gy : Gds Y
  nx : need (ats X) ≤ 4611686018427387904
  ny : need (ats Y) ≤ 4611686018427387904
  ty : ∀ y ∈ Y, y.text.size ≤ 80000
  o : ∃ out, s = out.foldl nStep ([], 0) ∧ long = out.foldl lStep ra ∧ F = out ++ folGo first k X Y ∧ out.length + k ≤ K0 ∧ NB out.length s
section
variable {first : Bool} {F : List Op} {ra : Int} {K0 : Nat} {X Y : List Op} {s : List Op × Int} {long : Int} {k : Nat}
theorem FRel.bd (h : FRel first F ra K0 X Y s long k) : s.1.length ≤ 2 * K0 ∧ ∀ x ∈ s.1, x.text.size ≤ K0 * 80000 := by
  obtain ⟨out, _, _, _, h1, h2, h3⟩ := h.o
  exact ⟨by omega, fun x hx => Nat.le_trans (h3 x hx) (Nat.mul_le_mul_right _ (by omega))⟩
theorem FRel.pos (h : FRel first F ra K0 X Y s long k) (hne : ¬ (X.length = 0 ∧ Y.length = 0)) : ∃ j, k = j + 1 := by
  have := h.m
  cases X with
  | cons x X => rw [ms_cons] at this; exact ⟨k - 1, by omega⟩
  | nil =>
    cases Y with
    | cons y Y => rw [ms_cons] at this; exact ⟨k - 1, by omega⟩
    | nil => exact absurd ⟨rfl, rfl⟩ hne
theorem FRel.fin (h : FRel first F ra K0 [] [] s long k) : s = F.foldl nStep ([], 0) ∧ long = F.foldl lStep ra := by
  obtain ⟨out, h1, h2, h3, _⟩ := h.o
  have e : folGo first k [] [] = [] := by cases k <;> simp [folGo]
  rw [e, List.append_nil] at h3
  subst h3
  exact ⟨h1, h2⟩
/-- An insert of Y. -/
theorem FRel.ins {y : Op} (h : FRel first F ra K0 X (y :: Y) s long (k + 1)) (hi : y.kind = 2) (hf : (first || !insB X) = true) : FRel first F ra K0 X Y (putL s.1 y, s.2) (wrap64 (long + runeCount y.text)) k := by
  obtain ⟨out, h1, h2, h3, h4, h5⟩ := h.o
  have hm := h.m
  have hn := h.ny
  rw [ms_cons] at hm
  rw [ats_cons, need_append] at hn
  have e1 : nStep s y = (putL s.1 y, s.2) := by unfold nStep; rw [if_neg (by omega), if_pos hi]
  have e2 : lStep long y = wrap64 (long + runeCount y.text) := by unfold lStep; rw [if_pos hi]
  have e3 : folGo first (k + 1) X (y :: Y) = y :: folGo first k X Y := by
    rw [folGo, if_neg (by simp), if_pos (by rw [show insB (y :: Y) = true by simp [insB, hi]]; simpa using hf)]
    rfl
  refine ⟨by omega, h.gx, h.gy.tail, h.nx, by omega, fun z hz => h.ty z (.tail _ hz), out ++ [y], ?_, ?_, ?_, by simp; omega, ?_⟩
  · rw [List.foldl_append, ← h1]; exact e1.symm
  · rw [List.foldl_append, ← h2]; exact e2.symm
  · rw [h3, e3]; simp
  · have := h5.step (h.ty y (.head _))
    rw [e1] at this
    simpa using this
/-- An insert of X: so many runes are kept. -/
theorem FRel.kept {x : Op} (h : FRel first F ra K0 (x :: X) Y s long (k + 1)) (hi : x.kind = 2) (hf : (insB Y && (first || !insB (x :: X))) = false) :
    FRel first F ra K0 X Y (putL (flushL s).1 ⟨1, runeCount x.text, ⟨#[]⟩, []⟩, (flushL s).2) long k := by
  obtain ⟨out, h1, h2, h3, h4, h5⟩ := h.o
  have hm := h.m
  have hn := h.nx
  rw [ms_cons] at hm
  rw [ats_cons, need_append] at hn
  have e1 : nStep s ⟨1, runeCount x.text, ⟨#[]⟩, []⟩ = (putL (flushL s).1 ⟨1, runeCount x.text, ⟨#[]⟩, []⟩, (flushL s).2) := by unfold nStep; rw [if_pos rfl]
  have e2 : lStep long ⟨1, runeCount x.text, ⟨#[]⟩, []⟩ = long := by unfold lStep; rw [if_neg (show ¬ (1 : Int) = 2 by decide), if_neg (show ¬ (1 : Int) = 3 by decide)]
  have e3 : folGo first (k + 1) (x :: X) Y = ⟨1, runeCount x.text, ⟨#[]⟩, []⟩ :: folGo first k X Y := by
    rw [folGo, if_neg (by simp), if_neg (by simp [hf]), if_pos (by simp [insB, hi])]
    rfl
  refine ⟨by omega, h.gx.tail, h.gy, by omega, h.ny, h.ty, out ++ [⟨1, runeCount x.text, ⟨#[]⟩, []⟩], ?_, ?_, ?_, by simp; omega, ?_⟩
  · rw [List.foldl_append, ← h1]; exact e1.symm
  · rw [List.foldl_append, ← h2]; exact e2.symm
  · rw [h3, e3]; simp
  · have := h5.step (o := ⟨1, runeCount x.text, ⟨#[]⟩, []⟩) (by show (0 : Nat) ≤ _; omega)
    rw [e1] at this
    simpa using this
/-- What is left behind a run of both. -/
theorem FRel.run (h : FRel first F ra K0 X Y s long (k + 1)) (hne : ¬ (X.length = 0 ∧ Y.length = 0)) (hx : insB X = false) (hy : insB Y = false) :
    ms (takeO (min (leftN X) (leftN Y)) X).2 + ms (takeO (min (leftN X) (leftN Y)) Y).2 ≤ k ∧ Gds (takeO (min (leftN X) (leftN Y)) X).2 ∧ Gds (takeO (min (leftN X) (leftN Y)) Y).2 ∧
      need (ats (takeO (min (leftN X) (leftN Y)) X).2) ≤ 4611686018427387904 ∧ need (ats (takeO (min (leftN X) (leftN Y)) Y).2) ≤ 4611686018427387904 ∧ (∀ y ∈ (takeO (min (leftN X) (leftN Y)) Y).2, y.text.size ≤ 80000) ∧
      (takeO (min (leftN X) (leftN Y)) Y).1.text.size ≤ 80000 := by
  have hm := h.m
  have hn1 := h.nx
  have hn2 := h.ny
  have pos : ∀ {o : Op} {l : List Op}, Gds (o :: l) → insB (o :: l) = false → o.kind ≠ 2 ∧ 0 < o.n := fun {o l} hg hi => by
    have hk : o.kind ≠ 2 := by simpa [insB] using hi
    refine ⟨hk, ?_⟩
    rcases hg o (.head _) with ⟨k2, _⟩ | ⟨_, h, _⟩ | ⟨_, h, _⟩
    · exact absurd k2 hk
    · exact h
    · exact h
  have bnd : ∀ {o : Op} {l : List Op}, Gds (o :: l) → need (ats (o :: l)) ≤ 4611686018427387904 → o.n ≤ 4611686018427387904 := fun {o l} hg hn => by
    have := (hg o (.head _)).need
    rw [ats_cons, need_append] at hn
    omega
  have tsz : ∀ {n : Int} {o : Op} {l : List Op}, (∀ y ∈ o :: l, y.text.size ≤ 80000) → ∀ y ∈ (takeO n (o :: l)).2, y.text.size ≤ 80000 := fun {n o l} ht y hy => by
    unfold takeO at hy
    dsimp only at hy
    split at hy
    · exact ht y (.tail _ hy)
    · cases hy with
      | head => exact ht o (.head _)
      | tail _ hy => exact ht y (.tail _ hy)
  have e0 : ms ([] : List Op) = 0 := rfl
  cases X with
  | nil =>
    cases Y with
    | nil => exact absurd ⟨rfl, rfl⟩ hne
    | cons q Y =>
      obtain ⟨kq, pq⟩ := pos h.gy hy
      have hmin : min (leftN []) (leftN (q :: Y)) ≤ q.n ∧ 0 < min (leftN []) (leftN (q :: Y)) := by
        show min 20001 q.n ≤ q.n ∧ 0 < min 20001 q.n
        omega
      obtain ⟨t1, t2, t3⟩ := take_law h.gy kq hmin.2 hmin.1 (bnd h.gy hn2)
      have t4 := congrArg need t2
      rw [need_append] at t4
      rw [takeO_nil]
      exact ⟨by show ms [] + _ ≤ k; omega, h.gx, t1, hn1, by omega, tsz h.ty, h.ty q (.head _)⟩
  | cons p X =>
    obtain ⟨kp, pp⟩ := pos h.gx hx
    cases Y with
    | nil =>
      have hmin : min (leftN (p :: X)) (leftN []) ≤ p.n ∧ 0 < min (leftN (p :: X)) (leftN []) := by
        show min p.n 20001 ≤ p.n ∧ 0 < min p.n 20001
        omega
      obtain ⟨t1, t2, t3⟩ := take_law h.gx kp hmin.2 hmin.1 (bnd h.gx hn1)
      have t4 := congrArg need t2
      rw [need_append] at t4
      rw [takeO_nil]
      exact ⟨by show _ + ms [] ≤ k; omega, t1, h.gy, by omega, hn2, h.ty, by show (0 : Nat) ≤ _; omega⟩
    | cons q Y =>
      obtain ⟨kq, pq⟩ := pos h.gy hy
      have hmin : min (leftN (p :: X)) (leftN (q :: Y)) ≤ p.n ∧ min (leftN (p :: X)) (leftN (q :: Y)) ≤ q.n ∧ 0 < min (leftN (p :: X)) (leftN (q :: Y)) := by
        show min p.n q.n ≤ p.n ∧ min p.n q.n ≤ q.n ∧ 0 < min p.n q.n
        omega
      obtain ⟨s1, s2, s3⟩ := take_law h.gx kp hmin.2.2 hmin.1 (bnd h.gx hn1)
      obtain ⟨t1, t2, t3⟩ := take_law h.gy kq hmin.2.2 hmin.2.1 (bnd h.gy hn2)
      have s4 := congrArg need s2
      have t4 := congrArg need t2
      rw [need_append] at s4 t4
      exact ⟨by omega, s1, t1, by omega, by omega, tsz h.ty, h.ty q (.head _)⟩
theorem folGo_run (hne : ¬ (X.length = 0 ∧ Y.length = 0)) (hx : insB X = false) (hy : insB Y = false) {p q : Op} {X' Y' : List Op} (e1 : takeO (min (leftN X) (leftN Y)) X = (p, X')) (e2 : takeO (min (leftN X) (leftN Y)) Y = (q, Y')) :
    folGo first (k + 1) X Y = metL first p q ++ folGo first k X' Y' := by
  rw [folGo, if_neg hne, if_neg (by simp [hy]), if_neg (by simp [hx]), e1, e2]
  unfold metL
  dsimp only
  split
  · rfl
  · split <;> rfl
/-- A run of both: what it writes. -/
theorem FRel.met (h : FRel first F ra K0 X Y s long (k + 1)) (hne : ¬ (X.length = 0 ∧ Y.length = 0)) (hx : insB X = false) (hy : insB Y = false) {p q : Op} {X' Y' : List Op} (e1 : takeO (min (leftN X) (leftN Y)) X = (p, X')) (e2 : takeO (min (leftN X) (leftN Y)) Y = (q, Y'))
    (hk : q.kind = 1 ∨ q.kind = 3) :
    (p.kind = 3 → FRel first F ra K0 X' Y' s long k) ∧ (p.kind ≠ 3 → q.kind = 3 → FRel first F ra K0 X' Y' (s.1, wrap64 (s.2 + q.n)) (wrap64 (long - q.n)) k) ∧
      (p.kind ≠ 3 → q.kind ≠ 3 → FRel first F ra K0 X' Y' (putL (flushL s).1 ⟨q.kind, q.n, q.text, flL p.attrs q.attrs first⟩, (flushL s).2) long k) := by
  obtain ⟨out, h1, h2, h3, h4, h5⟩ := h.o
  have R := h.run hne hx hy
  rw [folGo_run hne hx hy e1 e2] at h3
  rw [e1, e2] at R
  obtain ⟨r1, r2, r3, r4, r5, r6, r7⟩ := R
  refine ⟨fun k3 => ?_, fun k3 q3 => ?_, fun k3 q3 => ?_⟩
  · refine ⟨r1, r2, r3, r4, r5, r6, out, h1, h2, ?_, by omega, h5⟩
    rw [h3]; unfold metL; rw [if_pos k3]; rfl
  · have n1 : nStep s q = (s.1, wrap64 (s.2 + q.n)) := by unfold nStep; rw [if_neg (by omega), if_neg (by omega), if_pos q3]
    have n2 : lStep long q = wrap64 (long - q.n) := by unfold lStep; rw [if_neg (by omega), if_pos q3]
    refine ⟨r1, r2, r3, r4, r5, r6, out ++ [q], ?_, ?_, ?_, by simp; omega, ?_⟩
    · rw [List.foldl_append, ← h1]; exact n1.symm
    · rw [List.foldl_append, ← h2]; exact n2.symm
    · rw [h3]; unfold metL; rw [if_neg k3, if_pos q3]; simp
    · have := h5.step r7
      rw [n1] at this
      simpa using this
  · have hq1 : q.kind = 1 := by omega
    have n1 : nStep s ⟨q.kind, q.n, q.text, flL p.attrs q.attrs first⟩ = (putL (flushL s).1 ⟨q.kind, q.n, q.text, flL p.attrs q.attrs first⟩, (flushL s).2) := by unfold nStep; rw [if_pos hq1]
    have n2 : lStep long ⟨q.kind, q.n, q.text, flL p.attrs q.attrs first⟩ = long := by unfold lStep; rw [if_neg (by dsimp only; omega), if_neg q3]
    refine ⟨r1, r2, r3, r4, r5, r6, out ++ [⟨q.kind, q.n, q.text, flL p.attrs q.attrs first⟩], ?_, ?_, ?_, by simp; omega, ?_⟩
    · rw [List.foldl_append, ← h1]; exact n1.symm
    · rw [List.foldl_append, ← h2]; exact n2.symm
    · rw [h3]; unfold metL; rw [if_neg k3, if_neg q3]; simp
    · have := h5.step (o := ⟨q.kind, q.n, q.text, flL p.attrs q.attrs first⟩) r7
      rw [n1] at this
      simpa using this
/-- The kinds of what is taken. -/
theorem take_kind {n : Int} {l : List Op} (hg : Gds l) (hi : insB l = false) : (takeO n l).1.kind = 1 ∨ (takeO n l).1.kind = 3 := by
  cases l with
  | nil => exact .inl rfl
  | cons o l =>
    have hk : o.kind ≠ 2 := by simpa [insB] using hi
    rcases hg o (.head _) with ⟨k2, _⟩ | ⟨k2, _⟩ | ⟨k2, _⟩
    · exact absurd k2 hk
    · exact .inr k2
    · exact .inl k2
end
/-- As the loop begins. -/
theorem frel_start {first : Bool} {a b : Change} {ra : Int} (ha : Rt a) (hb : Rt b) : FRel first (folOut first a b) ra (ms (normL a.ops) + ms (normL b.ops)) (normL a.ops) (normL b.ops) ([], 0) ra (ms (normL a.ops) + ms (normL b.ops)) :=
  ⟨Nat.le_refl _, ha.nG, hb.nG, by have := ha.nNeed; have := ha.small; omega, by have := hb.nNeed; have := hb.small; omega, fun y hy => (hb.norm.ok y hy).size, [], rfl, rfl, rfl, by simp, by simp [NB]⟩
theorem ms_le : ∀ {l : List Op}, Gds l → ms l ≤ need (ats l) + l.length
  | [], _ => by simp [ms]
  | o :: l, h => by
    have := ms_le h.tail
    have hn := (h o (.head _)).need
    rw [ms_cons, ats_cons, need_append, List.length_cons]
    omega
theorem Rt.ms {c : Change} (h : Rt c) : ms (normL c.ops) ≤ 22000 := by
  have := ms_le h.nG
  have := h.nLen
  have := h.nNeed
  have := h.small
  omega
end Go.Proofs.YtaemajcpgmaapaaDoor
