/- What follow.Follow writes: in plain Lean, by operations and by steps. -/
import Derived.Test.YtaemajcpgmaapaaDoorAlg2
namespace Go.Proofs.YtaemajcpgmaapaaDoor
open Go.RowKit
open Go.Lib

def insB : List Op → Bool
  | [] => false
  | x :: _ => x.kind == 2
def leftN : List Op → Int
  | [] => 20001
  | x :: _ => x.n
/-- What take hands out, and what it leaves. -/
def takeO (n : Int) : List Op → Op × List Op
  | [] => (⟨1, n, ⟨#[]⟩, []⟩, [])
  | x :: l => (⟨x.kind, n, x.text, x.attrs⟩, if wrap64 (x.n - n) = 0 then l else ⟨x.kind, wrap64 (x.n - n), x.text, x.attrs⟩ :: l)
/-- The operations that Follow writes, one behind another. -/
def folGo (first : Bool) : Nat → List Op → List Op → List Op
  | 0, _, _ => []
  | k + 1, x, y =>
    if x.length = 0 ∧ y.length = 0 then []
    else if insB y && (first || !insB x) then y.headD default :: folGo first k x y.tail
    else if insB x then ⟨1, runeCount (x.headD default).text, ⟨#[]⟩, []⟩ :: folGo first k x.tail y
    else if (takeO (min (leftN x) (leftN y)) x).1.kind = 3 then folGo first k (takeO (min (leftN x) (leftN y)) x).2 (takeO (min (leftN x) (leftN y)) y).2
    else if (takeO (min (leftN x) (leftN y)) y).1.kind = 3 then (takeO (min (leftN x) (leftN y)) y).1 :: folGo first k (takeO (min (leftN x) (leftN y)) x).2 (takeO (min (leftN x) (leftN y)) y).2
    else ⟨(takeO (min (leftN x) (leftN y)) y).1.kind, (takeO (min (leftN x) (leftN y)) y).1.n, (takeO (min (leftN x) (leftN y)) y).1.text, flL (takeO (min (leftN x) (leftN y)) x).1.attrs (takeO (min (leftN x) (leftN y)) y).1.attrs first⟩ ::
      folGo first k (takeO (min (leftN x) (leftN y)) x).2 (takeO (min (leftN x) (leftN y)) y).2

def folA (first : Bool) : List At → List At → List At
  | [], [] => []
  | .ins _ _ :: x, [] => .keep [] :: folA first x []
  | .del :: x, [] => folA first x []
  | .keep _ :: x, [] => .keep [] :: folA first x []
  | [], .ins c a :: y => .ins c a :: folA first [] y
  | [], .del :: y => .del :: folA first [] y
  | [], .keep v :: y => .keep v :: folA first [] y
  | .ins c a :: x, .ins d b :: y => if first then .ins d b :: folA first (.ins c a :: x) y else .keep [] :: folA first x (.ins d b :: y)
  | .ins _ _ :: x, .del :: y => .keep [] :: folA first x (.del :: y)
  | .ins _ _ :: x, .keep v :: y => .keep [] :: folA first x (.keep v :: y)
  | .del :: x, .ins d b :: y => .ins d b :: folA first (.del :: x) y
  | .keep u :: x, .ins d b :: y => .ins d b :: folA first (.keep u :: x) y
  | .del :: x, .del :: y => folA first x y
  | .del :: x, .keep _ :: y => folA first x y
  | .keep _ :: x, .del :: y => .del :: folA first x y
  | .keep u :: x, .keep v :: y => .keep (flM first u v) :: folA first x y
termination_by x y => x.length + y.length

/-- Steps whose attributes are rising rows. -/
def AtS : At → Prop
  | .ins _ a => Srt a
  | .del => True
  | .keep a => Srt a
def AS (x : List At) : Prop := ∀ s ∈ x, AtS s
theorem AS.tail {s : At} {x : List At} (h : AS (s :: x)) : AS x := fun r hr => h r (.tail _ hr)
theorem AS.head {s : At} {x : List At} (h : AS (s :: x)) : AtS s := h s (.head _)
theorem AS.cons {s : At} {x : List At} (h : AtS s) (k : AS x) : AS (s :: x) := fun r hr => by
  cases hr with
  | head => exact h
  | tail _ hr => exact k r hr
theorem AS.nil : AS [] := fun _ h => by cases h
theorem AS.append {x y : List At} (h : AS x) (k : AS y) : AS (x ++ y) := fun s hs => (List.mem_append.1 hs).elim (h s) (k s)
theorem AS.ks {x : List At} (h : AS x) : KS x := fun _ ha => h _ ha
theorem as_opAt {o : Op} (h : Gd o) : AS (opAt o) := by
  intro s hs
  rcases h with ⟨hk, _, _, _, hr⟩ | ⟨hk, _⟩ | ⟨hk, _, _, hc⟩
  · rw [opAt2 hk] at hs
    obtain ⟨c, _, rfl⟩ := List.mem_map.1 hs
    exact rt_srt hr
  · rw [opAt3 hk] at hs
    rw [List.eq_of_mem_replicate hs]; trivial
  · rw [opAt1 hk] at hs
    rw [List.eq_of_mem_replicate hs]; exact ch_srt hc
theorem as_ats {l : List Op} (h : Gds l) : AS (ats l) := fun s hs => by
  obtain ⟨o, ho, hs⟩ := List.mem_flatMap.1 hs
  exact as_opAt (h o ho) s hs
theorem upd_srt {z : Cell} {u : List Attr} (hz : Srt z.at) (hu : Srt u) : Srt (upd z u).at := by
  cases z with
  | new c a => exact apM_srt hz hu
  | old i a => exact cpM_srt hz hu
theorem upd_cp {z : Cell} {u v : List Attr} (hz : Srt z.at) (hu : Srt u) (hv : Srt v) : upd (upd z u) v = upd z (cpM u v) := by
  cases z with
  | new c a => exact congrArg _ (apM_cpM hz hu hv)
  | old i a => exact congrArg _ (cpM_assoc hz hu hv)
theorem upd_fl {first : Bool} {z : Cell} {u v : List Attr} (hz : Srt z.at) (hu : Srt u) (hv : Srt v) : upd (upd z u) (flM first u v) = upd (upd z v) (flM (!first) v u) := by
  rw [upd_cp hz hu (flM_srt hu hv), upd_cp hz hv (flM_srt hv hu), cpM_flM hu hv]
theorem CS.tail {z : Cell} {L : List Cell} (h : CS (z :: L)) : CS L := fun y hy => h y (.tail _ hy)
theorem CS.head {z : Cell} {L : List Cell} (h : CS (z :: L)) : Srt z.at := h z (.head _)
theorem CS.cons {z : Cell} {L : List Cell} (h : Srt z.at) (k : CS L) : CS (z :: L) := fun y hy => by
  cases hy with
  | head => exact h
  | tail _ hy => exact k y hy
theorem act_cs : ∀ (x : List At) (L : List Cell), AS x → CS L → CS (act L x)
  | [], L, _, hL => by simpa only [act] using hL
  | .ins c a :: x, L, hx, hL => by simp only [act]; exact .cons hx.head (act_cs x L hx.tail hL)
  | .del :: x, [], hx, hL => by simp only [act]; exact act_cs x [] hx.tail hL
  | .del :: x, z :: L, hx, hL => by simp only [act]; exact act_cs x L hx.tail hL.tail
  | .keep a :: x, [], hx, hL => by simp only [act]; exact act_cs x [] hx.tail hL
  | .keep a :: x, z :: L, hx, hL => by simp only [act]; exact .cons (upd_srt hL.head hx.head) (act_cs x L hx.tail hL.tail)
theorem need_pos {n : Nat} {L : List Cell} (h : n + 1 ≤ L.length) : ∃ z M, L = z :: M ∧ n ≤ M.length := by
  cases L with
  | nil => simp at h
  | cons z M => exact ⟨z, M, rfl, by simpa using h⟩

/-- One way round or the other: the same cells. -/
theorem fol_meets (first : Bool) (x y : List At) (L : List Cell) (hx : AS x) (hy : AS y) (hL : CS L) (nx : need x ≤ L.length) (ny : need y ≤ L.length) :
    act (act L x) (folA first x y) = act (act L y) (folA (!first) y x) := by
  match x, y with
  | [], [] => simp only [folA, act]
  | .ins c a :: x, [] =>
    have ih := fol_meets first x [] L hx.tail hy hL nx ny
    simp only [folA, act, upd] at ih ⊢
    rw [apM_nil a hx.head, ih]
  | .del :: x, [] =>
    obtain ⟨z, M, rfl, mx⟩ := need_pos nx
    have ih := fol_meets first x [] M hx.tail hy hL.tail mx (by simp [need])
    simp only [folA, act] at ih ⊢
    exact ih
  | .keep u :: x, [] =>
    obtain ⟨z, M, rfl, mx⟩ := need_pos nx
    have ih := fol_meets first x [] M hx.tail hy hL.tail mx (by simp [need])
    simp only [folA, act] at ih ⊢
    rw [upd_nil (upd_srt hL.head hx.head), ih]
  | [], .ins c a :: y =>
    have ih := fol_meets first [] y L hx hy.tail hL nx ny
    simp only [folA, act, upd] at ih ⊢
    rw [apM_nil a hy.head, ih]
  | [], .del :: y =>
    obtain ⟨z, M, rfl, my⟩ := need_pos ny
    have ih := fol_meets first [] y M hx hy.tail hL.tail (by simp [need]) my
    simp only [folA, act] at ih ⊢
    exact ih
  | [], .keep u :: y =>
    obtain ⟨z, M, rfl, my⟩ := need_pos ny
    have ih := fol_meets first [] y M hx hy.tail hL.tail (by simp [need]) my
    simp only [folA, act] at ih ⊢
    rw [upd_nil (upd_srt hL.head hy.head), ih]
  | .ins c a :: x, .ins d b :: y =>
    cases first with
    | true =>
      have ih := fol_meets true (.ins c a :: x) y L hx hy.tail hL nx ny
      rw [folA, folA]
      simp only [if_true, Bool.not_true, Bool.false_eq_true, if_false, act, upd] at ih ⊢
      rw [apM_nil b hy.head, ih]
    | false =>
      have ih := fol_meets false x (.ins d b :: y) L hx.tail hy hL nx ny
      rw [folA, folA]
      simp only [if_true, Bool.not_false, Bool.false_eq_true, if_false, act, upd] at ih ⊢
      rw [apM_nil a hx.head, ih]
  | .ins c a :: x, .del :: y =>
    have ih := fol_meets first x (.del :: y) L hx.tail hy hL nx ny
    rw [folA, folA]
    simp only [act, upd]
    rw [apM_nil a hx.head, ih]
  | .ins c a :: x, .keep v :: y =>
    have ih := fol_meets first x (.keep v :: y) L hx.tail hy hL nx ny
    rw [folA, folA]
    simp only [act, upd]
    rw [apM_nil a hx.head, ih]
  | .del :: x, .ins d b :: y =>
    have ih := fol_meets first (.del :: x) y L hx hy.tail hL nx ny
    rw [folA, folA]
    simp only [act, upd]
    rw [apM_nil b hy.head, ih]
  | .keep u :: x, .ins d b :: y =>
    have ih := fol_meets first (.keep u :: x) y L hx hy.tail hL nx ny
    rw [folA, folA]
    simp only [act, upd]
    rw [apM_nil b hy.head, ih]
  | .del :: x, .del :: y =>
    obtain ⟨z, M, rfl, mx⟩ := need_pos nx
    have ih := fol_meets first x y M hx.tail hy.tail hL.tail mx (by simpa [need] using ny)
    simp only [folA, act]
    exact ih
  | .del :: x, .keep v :: y =>
    obtain ⟨z, M, rfl, mx⟩ := need_pos nx
    have ih := fol_meets first x y M hx.tail hy.tail hL.tail mx (by simpa [need] using ny)
    simp only [folA, act]
    exact ih
  | .keep u :: x, .del :: y =>
    obtain ⟨z, M, rfl, mx⟩ := need_pos nx
    have ih := fol_meets first x y M hx.tail hy.tail hL.tail mx (by simpa [need] using ny)
    simp only [folA, act]
    exact ih
  | .keep u :: x, .keep v :: y =>
    obtain ⟨z, M, rfl, mx⟩ := need_pos nx
    have ih := fol_meets first x y M hx.tail hy.tail hL.tail mx (by simpa [need] using ny)
    simp only [folA, act]
    rw [ih, upd_fl hL.head hx.head hy.head]
termination_by x.length + y.length
theorem fol_as (first : Bool) (x y : List At) (hx : AS x) (hy : AS y) : AS (folA first x y) := by
  match x, y with
  | [], [] => simp only [folA]; exact .nil
  | .ins c a :: x, [] => rw [folA]; exact .cons .nil (fol_as first x [] hx.tail hy)
  | .del :: x, [] => rw [folA]; exact fol_as first x [] hx.tail hy
  | .keep u :: x, [] => rw [folA]; exact .cons .nil (fol_as first x [] hx.tail hy)
  | [], .ins c a :: y => rw [folA]; exact .cons hy.head (fol_as first [] y hx hy.tail)
  | [], .del :: y => rw [folA]; exact .cons trivial (fol_as first [] y hx hy.tail)
  | [], .keep u :: y => rw [folA]; exact .cons hy.head (fol_as first [] y hx hy.tail)
  | .ins c a :: x, .ins d b :: y =>
    rw [folA]
    split
    · exact .cons hy.head (fol_as first (.ins c a :: x) y hx hy.tail)
    · exact .cons .nil (fol_as first x (.ins d b :: y) hx.tail hy)
  | .ins c a :: x, .del :: y => rw [folA]; exact .cons .nil (fol_as first x (.del :: y) hx.tail hy)
  | .ins c a :: x, .keep v :: y => rw [folA]; exact .cons .nil (fol_as first x (.keep v :: y) hx.tail hy)
  | .del :: x, .ins d b :: y => rw [folA]; exact .cons hy.head (fol_as first (.del :: x) y hx hy.tail)
  | .keep u :: x, .ins d b :: y => rw [folA]; exact .cons hy.head (fol_as first (.keep u :: x) y hx hy.tail)
  | .del :: x, .del :: y => rw [folA]; exact fol_as first x y hx.tail hy.tail
  | .del :: x, .keep v :: y => rw [folA]; exact fol_as first x y hx.tail hy.tail
  | .keep u :: x, .del :: y => rw [folA]; exact .cons trivial (fol_as first x y hx.tail hy.tail)
  | .keep u :: x, .keep v :: y => rw [folA]; exact .cons (flM_srt hx.head hy.head) (fol_as first x y hx.tail hy.tail)
termination_by x.length + y.length
/-- What follows x is about no more runes than x leaves. -/
theorem fol_need (first : Bool) (x y : List At) (L : List Cell) (nx : need x ≤ L.length) (ny : need y ≤ L.length) : need (folA first x y) ≤ (act L x).length := by
  match x, y with
  | [], [] => simp only [folA, need]; omega
  | .ins c a :: x, [] =>
    have ih := fol_need first x [] L nx ny
    simp only [folA, act, need, List.length_cons]
    omega
  | .del :: x, [] =>
    obtain ⟨z, M, rfl, mx⟩ := need_pos nx
    have ih := fol_need first x [] M mx (by simp [need])
    simp only [folA, act]
    exact ih
  | .keep u :: x, [] =>
    obtain ⟨z, M, rfl, mx⟩ := need_pos nx
    have ih := fol_need first x [] M mx (by simp [need])
    simp only [folA, act, need, List.length_cons]
    omega
  | [], .ins c a :: y =>
    have ih := fol_need first [] y L nx ny
    simp only [folA, act, need] at ih ⊢
    exact ih
  | [], .del :: y =>
    obtain ⟨z, M, rfl, my⟩ := need_pos ny
    have ih := fol_need first [] y M (by simp [need]) my
    simp only [folA, act, need, List.length_cons] at ih ⊢
    omega
  | [], .keep u :: y =>
    obtain ⟨z, M, rfl, my⟩ := need_pos ny
    have ih := fol_need first [] y M (by simp [need]) my
    simp only [folA, act, need, List.length_cons] at ih ⊢
    omega
  | .ins c a :: x, .ins d b :: y =>
    rw [folA]
    split
    · have ih := fol_need first (.ins c a :: x) y L nx ny
      simp only [need]
      exact ih
    · have ih := fol_need first x (.ins d b :: y) L nx ny
      simp only [need, act, List.length_cons]
      omega
  | .ins c a :: x, .del :: y =>
    have ih := fol_need first x (.del :: y) L nx ny
    rw [folA]
    simp only [need, act, List.length_cons]
    omega
  | .ins c a :: x, .keep v :: y =>
    have ih := fol_need first x (.keep v :: y) L nx ny
    rw [folA]
    simp only [need, act, List.length_cons]
    omega
  | .del :: x, .ins d b :: y =>
    have ih := fol_need first (.del :: x) y L nx ny
    rw [folA]
    simp only [need]
    exact ih
  | .keep u :: x, .ins d b :: y =>
    have ih := fol_need first (.keep u :: x) y L nx ny
    rw [folA]
    simp only [need]
    exact ih
  | .del :: x, .del :: y =>
    obtain ⟨z, M, rfl, mx⟩ := need_pos nx
    have ih := fol_need first x y M mx (by simpa [need] using ny)
    simp only [folA, act]
    exact ih
  | .del :: x, .keep v :: y =>
    obtain ⟨z, M, rfl, mx⟩ := need_pos nx
    have ih := fol_need first x y M mx (by simpa [need] using ny)
    simp only [folA, act]
    exact ih
  | .keep u :: x, .del :: y =>
    obtain ⟨z, M, rfl, mx⟩ := need_pos nx
    have ih := fol_need first x y M mx (by simpa [need] using ny)
    simp only [folA, act, need, List.length_cons]
    omega
  | .keep u :: x, .keep v :: y =>
    obtain ⟨z, M, rfl, mx⟩ := need_pos nx
    have ih := fol_need first x y M mx (by simpa [need] using ny)
    simp only [folA, act, need, List.length_cons]
    omega
termination_by x.length + y.length
end Go.Proofs.YtaemajcpgmaapaaDoor
