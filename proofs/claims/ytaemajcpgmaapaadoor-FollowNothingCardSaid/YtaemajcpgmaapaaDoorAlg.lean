/- Changesets as rows of single steps; what a row of steps makes of cells; the one row that says the same. Plain Lean. -/
import Derived.Test.YtaemajcpgmaapaaDoorAttV
import Derived.Test.YtaemajcpgmaapaaDoorTxt
import Derived.Test.YtaemajcpgmaapaaDoorNorm2
namespace Go.Proofs.YtaemajcpgmaapaaDoor

inductive At where
  | ins (c : List UInt8) (a : List Attr)
  | del
  | keep (a : List Attr)
  deriving DecidableEq
inductive Cell where
  | new (c : List UInt8) (a : List Attr)
  | old (i : Nat) (a : List Attr)
  deriving DecidableEq
def Cell.at : Cell → List Attr
  | .new _ a => a
  | .old _ a => a
def upd : Cell → List Attr → Cell
  | .new c a, v => .new c (apM a v)
  | .old i u, v => .old i (cpM u v)
def act : List Cell → List At → List Cell
  | L, [] => L
  | L, .ins c a :: r => .new c a :: act L r
  | [], .del :: r => act [] r
  | _ :: L, .del :: r => act L r
  | [], .keep _ :: r => act [] r
  | z :: L, .keep v :: r => upd z v :: act L r
def opAt (o : Op) : List At :=
  if o.kind = 2 then (chs o.text.data.toList).map (fun c => .ins c o.attrs)
  else if o.kind = 3 then List.replicate o.n.toNat .del
  else List.replicate o.n.toNat (.keep o.attrs)
def ats (l : List Op) : List At := l.flatMap opAt
theorem ats_nil : ats [] = [] := rfl
theorem ats_cons (o : Op) (l : List Op) : ats (o :: l) = opAt o ++ ats l := rfl
theorem ats_append (l m : List Op) : ats (l ++ m) = ats l ++ ats m := by simp [ats]
theorem ats_one (o : Op) : ats [o] = opAt o := by simp [ats]

/-- How many runes a row of steps is about. -/
def need : List At → Nat
  | [] => 0
  | .ins _ _ :: r => need r
  | .del :: r => need r + 1
  | .keep _ :: r => need r + 1
theorem need_append : ∀ x y, need (x ++ y) = need x + need y
  | [], y => by simp [need]
  | .ins _ _ :: x, y => by simp [need, need_append x y]
  | .del :: x, y => by simp [need, need_append x y]; omega
  | .keep _ :: x, y => by simp [need, need_append x y]; omega
theorem need_dels : ∀ n, need (List.replicate n .del) = n
  | 0 => rfl
  | n + 1 => by rw [List.replicate_succ]; simp [need, need_dels n]
theorem need_keeps (u : List Attr) : ∀ n, need (List.replicate n (.keep u)) = n
  | 0 => rfl
  | n + 1 => by rw [List.replicate_succ]; simp [need, need_keeps u n]

/-- Deletes behind the inserts that come before the next keep. -/
def cn : List At → Nat → List At
  | [], g => List.replicate g .del
  | .ins c a :: r, g => .ins c a :: cn r g
  | .del :: r, g => cn r (g + 1)
  | .keep a :: r, g => List.replicate g .del ++ .keep a :: cn r 0
theorem act_dels : ∀ (g : Nat) (L : List Cell) (x : List At), act L (List.replicate g .del ++ x) = act (L.drop g) x
  | 0, L, x => by simp
  | g + 1, [], x => by rw [List.replicate_succ, List.cons_append, act, act_dels g [] x]; simp
  | g + 1, z :: L, x => by rw [List.replicate_succ, List.cons_append, act, act_dels g L x]; rfl
theorem act_cn : ∀ (x : List At) (g : Nat) (L : List Cell), act L (cn x g) = act (L.drop g) x
  | [], g, L => by
    have := act_dels g L []
    rw [List.append_nil] at this
    exact this
  | .ins c a :: r, g, L => by simp only [cn, act]; rw [act_cn r g L]
  | .del :: r, g, L => by
    simp only [cn]
    rw [act_cn r (g + 1) L]
    cases h : L.drop g with
    | nil =>
      have : L.drop (g + 1) = [] := by rw [List.drop_eq_nil_iff] at h ⊢; omega
      rw [this, act]
    | cons z M =>
      have : L.drop (g + 1) = M := by rw [← List.drop_drop, h]; rfl
      rw [this, act]
  | .keep a :: r, g, L => by
    simp only [cn]
    rw [act_dels g L]
    cases L.drop g with
    | nil => simp only [act]; rw [act_cn r 0 []]; simp
    | cons z M => simp only [act]; rw [act_cn r 0 M]; simp

def trimA : List At → List At
  | [] => []
  | x :: l => if x = .keep [] ∧ trimA l = [] then [] else x :: trimA l
theorem trimA_keeps : ∀ n, trimA (List.replicate n (.keep [])) = []
  | 0 => rfl
  | n + 1 => by rw [List.replicate_succ, trimA, if_pos ⟨rfl, trimA_keeps n⟩]
theorem trimA_append : ∀ (x : List At) (n : Nat), trimA (x ++ List.replicate n (.keep [])) = trimA x
  | [], n => by rw [List.nil_append, trimA_keeps]; rfl
  | a :: x, n => by simp only [List.cons_append, trimA]; rw [trimA_append x n]
theorem trimA_split : ∀ x : List At, ∃ n, x = trimA x ++ List.replicate n (.keep [])
  | [] => ⟨0, rfl⟩
  | a :: x => by
    obtain ⟨n, hn⟩ := trimA_split x
    unfold trimA
    split
    · next h =>
      refine ⟨n + 1, ?_⟩
      rw [h.2, List.nil_append] at hn
      rw [h.1, hn, List.nil_append, List.replicate_succ, ← hn]
    · refine ⟨n, ?_⟩
      rw [List.cons_append, ← hn]
def CS (L : List Cell) : Prop := ∀ z ∈ L, Srt z.at
theorem upd_nil {z : Cell} (h : Srt z.at) : upd z [] = z := by
  cases z with
  | new c a => exact congrArg _ (apM_nil a h)
  | old i a => exact congrArg _ (cpM_nil a h)
theorem act_keeps : ∀ (n : Nat) (L : List Cell), CS L → act L (List.replicate n (.keep [])) = L
  | 0, L, _ => by rw [List.replicate_zero, act]
  | n + 1, [], h => by rw [List.replicate_succ, act]; exact act_keeps n [] h
  | n + 1, z :: L, h => by
    rw [List.replicate_succ, act, act_keeps n L fun y hy => h y (.tail _ hy), upd_nil (h z (.head _))]
theorem act_append_keeps : ∀ (x : List At) (n : Nat) (L : List Cell), CS L → act L (x ++ List.replicate n (.keep [])) = act L x
  | [], n, L, h => by rw [List.nil_append, act_keeps n L h, act]
  | .ins c a :: x, n, L, h => by simp only [List.cons_append, act]; rw [act_append_keeps x n L h]
  | .del :: x, n, [], h => by simp only [List.cons_append, act]; rw [act_append_keeps x n [] h]
  | .del :: x, n, z :: L, h => by simp only [List.cons_append, act]; rw [act_append_keeps x n L fun y hy => h y (.tail _ hy)]
  | .keep a :: x, n, [], h => by simp only [List.cons_append, act]; rw [act_append_keeps x n [] h]
  | .keep a :: x, n, z :: L, h => by simp only [List.cons_append, act]; rw [act_append_keeps x n L fun y hy => h y (.tail _ hy)]
theorem act_trimA (x : List At) (L : List Cell) (h : CS L) : act L (trimA x) = act L x := by
  obtain ⟨n, hn⟩ := trimA_split x
  rw [hn, trimA_append, act_append_keeps _ n L h]
  have : trimA (trimA x) = trimA x := by
    have := trimA_append (trimA x) n
    rw [← hn] at this
    exact this.symm
  rw [this]

/-- Cells that tell whence they are. -/
def genFrom (i n : Nat) : List Cell := (List.range' i n).map fun j => .old j []
theorem genFrom_succ (i n : Nat) : genFrom i (n + 1) = .old i [] :: genFrom (i + 1) n := by simp [genFrom, List.range'_succ]
theorem genFrom_drop : ∀ (g i n : Nat), (genFrom i n).drop g = genFrom (i + g) (n - g)
  | 0, i, n => by simp
  | g + 1, i, 0 => by simp [genFrom]
  | g + 1, i, n + 1 => by rw [genFrom_succ, List.drop_succ_cons, genFrom_drop g (i + 1) n]; congr 1 <;> omega
theorem genFrom_cs (i n : Nat) : CS (genFrom i n) := by
  intro z hz
  obtain ⟨j, _, rfl⟩ := List.mem_map.1 hz
  exact .nil
/-- The steps that make such cells of n runes, from place i on. -/
def unG (n : Nat) : Nat → List Cell → List At
  | i, [] => List.replicate (n - i) .del
  | i, .new c a :: r => .ins c a :: unG n i r
  | i, .old j u :: r => List.replicate (j - i) .del ++ .keep u :: unG n (j + 1) r
def KS (x : List At) : Prop := ∀ a, .keep a ∈ x → Srt a
theorem KS.tail {a : At} {x : List At} (h : KS (a :: x)) : KS x := fun b hb => h b (.tail _ hb)
theorem cn_pads : ∀ n, cn (List.replicate n (.keep [])) 0 = List.replicate n (.keep [])
  | 0 => rfl
  | n + 1 => by rw [List.replicate_succ, cn, cn_pads n]; rfl
theorem cn_append_pads : ∀ (x : List At) (g n : Nat), cn (x ++ List.replicate n (.keep [])) g = cn x g ++ List.replicate n (.keep [])
  | [], g, 0 => by simp [cn]
  | [], g, n + 1 => by rw [List.nil_append, List.replicate_succ]; simp only [cn]; rw [cn_pads n]
  | .ins c a :: x, g, n => by simp only [List.cons_append, cn]; rw [cn_append_pads x g n]
  | .del :: x, g, n => by simp only [List.cons_append, cn]; rw [cn_append_pads x (g + 1) n]
  | .keep a :: x, g, n => by simp only [List.cons_append, cn]; rw [cn_append_pads x 0 n]; simp
theorem unG_gen : ∀ (m i : Nat), unG (i + m) i (genFrom i m) = List.replicate m (.keep [])
  | 0, i => by simp [genFrom, unG]
  | m + 1, i => by
    rw [genFrom_succ, unG, Nat.sub_self, show i + (m + 1) = (i + 1) + m by omega, unG_gen m (i + 1), List.replicate_succ]
    rfl
theorem unG_act : ∀ (x : List At) (i g m : Nat), KS x → need x ≤ m → unG (i + g + m) i (act (genFrom (i + g) m) x) = cn (x ++ List.replicate (m - need x) (.keep [])) g
  | [], i, g, m, _, _ => by
    rw [act, need, Nat.sub_zero, List.nil_append]
    cases m with
    | zero => simp [genFrom, unG, cn]
    | succ m =>
      rw [genFrom_succ, unG, show i + g + (m + 1) = (i + g + 1) + m by omega, unG_gen, List.replicate_succ, cn, cn_pads, show i + g - i = g by omega]
  | .ins c a :: x, i, g, m, hk, hn => by
    simp only [act, unG, List.cons_append, cn, need]
    rw [unG_act x i g m hk.tail (by simpa [need] using hn)]
  | .del :: x, i, g, m, hk, hn => by
    simp only [need] at hn ⊢
    obtain ⟨m, rfl⟩ : ∃ k, m = k + 1 := ⟨m - 1, by omega⟩
    rw [genFrom_succ, act, List.cons_append, cn, show i + g + (m + 1) = i + (g + 1) + m by omega, show i + g + 1 = i + (g + 1) by omega, unG_act x i (g + 1) m hk.tail (by omega), show m + 1 - (need x + 1) = m - need x by omega]
  | .keep a :: x, i, g, m, hk, hn => by
    simp only [need] at hn ⊢
    obtain ⟨m, rfl⟩ : ∃ k, m = k + 1 := ⟨m - 1, by omega⟩
    have ih := unG_act x (i + g + 1) 0 m hk.tail (by omega)
    rw [Nat.add_zero] at ih
    rw [genFrom_succ, act, upd, nil_cpM a (hk a (.head _)), unG, show i + g + (m + 1) = i + g + 1 + m by omega, ih, List.cons_append, cn, show i + g - i = g by omega, show m + 1 - (need x + 1) = m - need x by omega]
/-- What a row of steps makes of cells that tell whence they are tells the row, but for the order of deletes and inserts, and for keeps at its end. -/
theorem cn_of_act {x : List At} {n : Nat} (hk : KS x) (hn : need x ≤ n) : trimA (cn x 0) = trimA (unG n 0 (act (genFrom 0 n) x)) := by
  have := unG_act x 0 0 n hk hn
  rw [Nat.zero_add, Nat.zero_add] at this
  rw [this, cn_append_pads, trimA_append]
theorem cn_congr {x y : List At} {n : Nat} (hx : KS x) (hy : KS y) (nx : need x ≤ n) (ny : need y ≤ n) (h : act (genFrom 0 n) x = act (genFrom 0 n) y) : trimA (cn x 0) = trimA (cn y 0) := by
  rw [cn_of_act hx nx, cn_of_act hy ny, h]
end Go.Proofs.YtaemajcpgmaapaaDoor
