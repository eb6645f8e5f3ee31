/- Attributes as rising rows: what merges make of them, key by key. Plain Lean. -/
import Derived.Test.YtaemajcpgmaapaaDoorAttrs4
namespace Go.Proofs.YtaemajcpgmaapaaDoor

theorem bl_irr : ∀ x : List UInt8, Op.bytesLess x x = false
  | [] => rfl
  | a :: x => by simp [Op.bytesLess, bl_irr x]
theorem bl_trans : ∀ x y z : List UInt8, Op.bytesLess x y = true → Op.bytesLess y z = true → Op.bytesLess x z = true
  | _, [], _, h, _ => by simp [Op.bytesLess] at h
  | _, _ :: _, [], _, h => by simp [Op.bytesLess] at h
  | [], _ :: _, _ :: _, _, _ => rfl
  | a :: x, b :: y, c :: z, h, k => by
    simp only [Op.bytesLess, Bool.or_eq_true, decide_eq_true_eq, Bool.and_eq_true, beq_iff_eq] at h k ⊢
    rcases h with h | ⟨rfl, h⟩
    · rcases k with k | ⟨rfl, k⟩
      · exact .inl (UInt8.lt_trans h k)
      · exact .inl h
    · rcases k with k | ⟨rfl, k⟩
      · exact .inl k
      · exact .inr ⟨rfl, bl_trans x y z h k⟩
theorem bl_tri : ∀ x y : List UInt8, Op.bytesLess x y = false → Op.bytesLess y x = false → x = y
  | [], [], _, _ => rfl
  | _ :: _, [], _, h => by simp [Op.bytesLess] at h
  | [], _ :: _, h, _ => by simp [Op.bytesLess] at h
  | a :: x, b :: y, h, k => by
    simp only [Op.bytesLess, Bool.or_eq_false_iff, decide_eq_false_iff_not, Bool.and_eq_false_imp, beq_iff_eq] at h k
    have e : a = b := UInt8.le_antisymm (UInt8.not_lt.1 k.1) (UInt8.not_lt.1 h.1)
    subst e
    rw [bl_tri x y (h.2 rfl) (k.2 rfl)]
theorem lt_irr (a b : Attr) (h : a.key = b.key) : ltKey a b = false := by unfold ltKey; rw [h]; exact bl_irr _
theorem lt_trans' {a b c : Attr} (h : ltKey a b = true) (k : ltKey b c = true) : ltKey a c = true := bl_trans _ _ _ h k
theorem lt_tri {a b : Attr} (h : ltKey a b = false) (k : ltKey b a = false) : a.key = b.key := toList_inj (bl_tri _ _ h k)
theorem lt_ne {a b : Attr} (h : ltKey a b = true) : a.key ≠ b.key := fun e => by rw [lt_irr a b e] at h; cases h

def Srt (l : List Attr) : Prop := l.Pairwise fun a b => ltKey a b = true
def lk (k : ByteArray) : List Attr → Option Attr
  | [] => none
  | a :: l => if a.key = k then some a else lk k l
theorem lk_key {k : ByteArray} : ∀ {l : List Attr} {a : Attr}, lk k l = some a → a.key = k
  | [], _, h => by cases h
  | b :: l, a, h => by
    unfold lk at h
    split at h
    · next e => cases h; exact e
    · exact lk_key h
theorem lk_mem {k : ByteArray} : ∀ {l : List Attr} {a : Attr}, lk k l = some a → a ∈ l
  | [], _, h => by cases h
  | b :: l, a, h => by
    unfold lk at h
    split at h
    · cases h; exact .head _
    · exact .tail _ (lk_mem h)
theorem lk_none {k : ByteArray} : ∀ {l : List Attr}, (∀ a ∈ l, a.key ≠ k) → lk k l = none
  | [], _ => rfl
  | b :: l, h => by
    unfold lk
    rw [if_neg (h b (.head _))]
    exact lk_none fun a ha => h a (.tail _ ha)
theorem lk_some {k : ByteArray} : ∀ {l : List Attr} {a : Attr}, Srt l → a ∈ l → a.key = k → lk k l = some a
  | b :: l, a, hs, ha, hk => by
    unfold lk
    cases ha with
    | head => rw [if_pos hk]
    | tail _ ha =>
      have h2 := List.pairwise_cons.1 hs
      rw [if_neg fun e => lt_ne (h2.1 a ha) (e.trans hk.symm)]
      exact lk_some h2.2 ha hk
theorem Srt.tail {a : Attr} {l : List Attr} (h : Srt (a :: l)) : Srt l := (List.pairwise_cons.1 h).2
theorem Srt.head {a : Attr} {l : List Attr} (h : Srt (a :: l)) : ∀ b ∈ l, ltKey a b = true := (List.pairwise_cons.1 h).1
theorem Srt.lk_tail {a : Attr} {l : List Attr} (h : Srt (a :: l)) : lk a.key l = none := lk_none fun b hb => Ne.symm (lt_ne (h.head b hb))
/-- What is less than the first of a rising row is not in it. -/
theorem Srt.lk_less {a b : Attr} {l : List Attr} (h : Srt (b :: l)) (hl : ltKey a b = true) : lk a.key (b :: l) = none :=
  lk_none fun c hc => by
    cases hc with
    | head => exact Ne.symm (lt_ne hl)
    | tail _ hc => exact Ne.symm (lt_ne (lt_trans' hl (h.head c hc)))
/-- Rising rows are the same if they say the same of each key. -/
theorem srt_ext : ∀ {l m : List Attr}, Srt l → Srt m → (∀ k, lk k l = lk k m) → l = m
  | [], [], _, _, _ => rfl
  | a :: l, [], _, _, h => by have := h a.key; simp [lk] at this
  | [], b :: m, _, _, h => by have := h b.key; simp [lk] at this
  | a :: l, b :: m, h1, h2, h => by
    cases hab : ltKey a b with
    | true => have := h a.key; rw [h2.lk_less hab] at this; simp [lk] at this
    | false =>
      cases hba : ltKey b a with
      | true => have := h b.key; rw [h1.lk_less hba] at this; simp [lk] at this
      | false =>
        have e := lt_tri hab hba
        have e2 : a = b := by have := h a.key; unfold lk at this; rw [if_pos rfl, if_pos e.symm] at this; exact Option.some.inj this
        subst e2
        rw [srt_ext h1.tail h2.tail fun k => ?_]
        by_cases hk : a.key = k
        · subst hk; rw [h1.lk_tail, h2.lk_tail]
        · have := h k; unfold lk at this; rwa [if_neg hk, if_neg hk] at this

/-- What a merge says of a key. -/
def comb (pk : Option Attr → Option Attr → Attr × Bool) (x y : Option Attr) : Option Attr :=
  if x = none ∧ y = none then none else if (pk x y).2 then some (pk x y).1 else none
/-- A picked attribute has the key of those it is picked from. -/
def PkKey (pk : Option Attr → Option Attr → Attr × Bool) : Prop :=
  ∀ x y k, (x ≠ none ∨ y ≠ none) → (∀ a, x = some a → a.key = k) → (∀ b, y = some b → b.key = k) → (pk x y).2 = true → (pk x y).1.key = k
theorem picked_mem {r : Attr × Bool} {a : Attr} : a ∈ picked r ↔ r.2 = true ∧ a = r.1 := by
  unfold picked
  split
  · next h => simp [h]
  · next h => simp [h]
theorem ltKey_congr {a b a' b' : Attr} (h : a.key = a'.key) (k : b.key = b'.key) : ltKey a b = ltKey a' b' := by unfold ltKey; rw [h, k]
theorem srt_picked {r : Attr × Bool} {l : List Attr} (hl : Srt l) (h : r.2 = true → ∀ b ∈ l, ltKey r.1 b = true) : Srt (picked r ++ l) := by
  unfold picked
  split
  · next hr => exact List.pairwise_cons.2 ⟨h hr, hl⟩
  · exact hl
theorem lk_picked {r : Attr × Bool} {M : List Attr} {k k0 : ByteArray} (h : r.2 = true → r.1.key = k0) : lk k (picked r ++ M) = if k0 = k then (if r.2 then some r.1 else lk k M) else lk k M := by
  unfold picked
  by_cases hr : r.2 = true
  · rw [if_pos hr, if_pos hr]
    show (if r.1.key = k then some r.1 else lk k M) = _
    rw [h hr]
  · rw [if_neg hr, if_neg hr]
    split <;> rfl
theorem pkA {pk : Option Attr → Option Attr → Attr × Bool} (hpk : PkKey pk) (x : Attr) : (pk (some x) none).2 = true → (pk (some x) none).1.key = x.key :=
  hpk (some x) none x.key (.inl (by simp)) (by simp) (by simp)
theorem pkB {pk : Option Attr → Option Attr → Attr × Bool} (hpk : PkKey pk) (y : Attr) : (pk none (some y)).2 = true → (pk none (some y)).1.key = y.key :=
  hpk none (some y) y.key (.inr (by simp)) (by simp) (by simp)
theorem pkC {pk : Option Attr → Option Attr → Attr × Bool} (hpk : PkKey pk) (x y : Attr) (e : x.key = y.key) : (pk (some x) (some y)).2 = true → (pk (some x) (some y)).1.key = x.key :=
  hpk (some x) (some y) x.key (.inl (by simp)) (by simp) (by intro b hb; cases hb; exact e.symm)
/-- Each attribute of a merge has a key of one of the two. -/
theorem merge_keys {pk : Option Attr → Option Attr → Attr × Bool} (hpk : PkKey pk) : ∀ (a b : List Attr) (c : Attr), c ∈ mergeL pk a b → (∃ x ∈ a, x.key = c.key) ∨ ∃ y ∈ b, y.key = c.key := by
  intro a b
  induction a, b using mergeL.induct with
  | case1 => intro c h; unfold mergeL at h; cases h
  | case2 x a ih =>
    intro c h
    unfold mergeL at h
    rcases List.mem_append.1 h with h | h
    · obtain ⟨h1, rfl⟩ := picked_mem.1 h
      exact .inl ⟨x, .head _, (pkA hpk x h1).symm⟩
    · rcases ih c h with ⟨y, hy, e⟩ | ⟨y, hy, e⟩
      · exact .inl ⟨y, .tail _ hy, e⟩
      · cases hy
  | case3 y b ih =>
    intro c h
    unfold mergeL at h
    rcases List.mem_append.1 h with h | h
    · obtain ⟨h1, rfl⟩ := picked_mem.1 h
      exact .inr ⟨y, .head _, (pkB hpk y h1).symm⟩
    · rcases ih c h with ⟨x, hx, e⟩ | ⟨x, hx, e⟩
      · cases hx
      · exact .inr ⟨x, .tail _ hx, e⟩
  | case4 x a y b hl ih =>
    intro c h
    unfold mergeL at h
    rw [if_pos hl] at h
    rcases List.mem_append.1 h with h | h
    · obtain ⟨h1, rfl⟩ := picked_mem.1 h
      exact .inl ⟨x, .head _, (pkA hpk x h1).symm⟩
    · rcases ih c h with ⟨z, hz, e⟩ | ⟨z, hz, e⟩
      · exact .inl ⟨z, .tail _ hz, e⟩
      · exact .inr ⟨z, hz, e⟩
  | case5 x a y b hl hl2 ih =>
    intro c h
    unfold mergeL at h
    rw [if_neg hl, if_pos hl2] at h
    rcases List.mem_append.1 h with h | h
    · obtain ⟨h1, rfl⟩ := picked_mem.1 h
      exact .inr ⟨y, .head _, (pkB hpk y h1).symm⟩
    · rcases ih c h with ⟨z, hz, e⟩ | ⟨z, hz, e⟩
      · exact .inl ⟨z, hz, e⟩
      · exact .inr ⟨z, .tail _ hz, e⟩
  | case6 x a y b hl hl2 ih =>
    intro c h
    unfold mergeL at h
    rw [if_neg hl, if_neg hl2] at h
    have e0 := lt_tri (by simpa using hl) (by simpa using hl2)
    rcases List.mem_append.1 h with h | h
    · obtain ⟨h1, rfl⟩ := picked_mem.1 h
      exact .inl ⟨x, .head _, (pkC hpk x y e0 h1).symm⟩
    · rcases ih c h with ⟨z, hz, e⟩ | ⟨z, hz, e⟩
      · exact .inl ⟨z, .tail _ hz, e⟩
      · exact .inr ⟨z, .tail _ hz, e⟩
theorem merge_srt {pk : Option Attr → Option Attr → Attr × Bool} (hpk : PkKey pk) : ∀ a b : List Attr, Srt a → Srt b → Srt (mergeL pk a b) := by
  intro a b
  induction a, b using mergeL.induct with
  | case1 => intro _ _; unfold mergeL; exact List.Pairwise.nil
  | case2 x a ih =>
    intro ha hb
    unfold mergeL
    refine srt_picked (ih ha.tail hb) fun hr c hc => ?_
    rcases merge_keys hpk _ _ c hc with ⟨z, hz, e⟩ | ⟨z, hz, e⟩
    · rw [← ltKey_congr (pkA hpk x hr).symm e]; exact ha.head z hz
    · cases hz
  | case3 y b ih =>
    intro ha hb
    unfold mergeL
    refine srt_picked (ih ha hb.tail) fun hr c hc => ?_
    rcases merge_keys hpk _ _ c hc with ⟨z, hz, e⟩ | ⟨z, hz, e⟩
    · cases hz
    · rw [← ltKey_congr (pkB hpk y hr).symm e]; exact hb.head z hz
  | case4 x a y b hl ih =>
    intro ha hb
    unfold mergeL
    rw [if_pos hl]
    refine srt_picked (ih ha.tail hb) fun hr c hc => ?_
    rcases merge_keys hpk _ _ c hc with ⟨z, hz, e⟩ | ⟨z, hz, e⟩
    · rw [← ltKey_congr (pkA hpk x hr).symm e]; exact ha.head z hz
    · rw [← ltKey_congr (pkA hpk x hr).symm e]
      cases hz with
      | head => exact hl
      | tail _ hz => exact lt_trans' hl (hb.head z hz)
  | case5 x a y b hl hl2 ih =>
    intro ha hb
    unfold mergeL
    rw [if_neg hl, if_pos hl2]
    refine srt_picked (ih ha hb.tail) fun hr c hc => ?_
    rcases merge_keys hpk _ _ c hc with ⟨z, hz, e⟩ | ⟨z, hz, e⟩
    · rw [← ltKey_congr (pkB hpk y hr).symm e]
      cases hz with
      | head => exact hl2
      | tail _ hz => exact lt_trans' hl2 (ha.head z hz)
    · rw [← ltKey_congr (pkB hpk y hr).symm e]; exact hb.head z hz
  | case6 x a y b hl hl2 ih =>
    intro ha hb
    unfold mergeL
    rw [if_neg hl, if_neg hl2]
    have e0 := lt_tri (by simpa using hl) (by simpa using hl2)
    refine srt_picked (ih ha.tail hb.tail) fun hr c hc => ?_
    rcases merge_keys hpk _ _ c hc with ⟨z, hz, e⟩ | ⟨z, hz, e⟩
    · rw [← ltKey_congr (pkC hpk x y e0 hr).symm e]; exact ha.head z hz
    · rw [← ltKey_congr ((pkC hpk x y e0 hr).trans e0).symm e]; exact hb.head z hz
theorem comb_some {pk : Option Attr → Option Attr → Attr × Bool} (x y : Option Attr) (h : x ≠ none ∨ y ≠ none) : comb pk x y = if (pk x y).2 then some (pk x y).1 else none := by
  unfold comb
  rw [if_neg (by rintro ⟨rfl, rfl⟩; simp at h)]
theorem comb_none {pk : Option Attr → Option Attr → Attr × Bool} : comb pk none none = none := rfl
theorem lk_merge {pk : Option Attr → Option Attr → Attr × Bool} (hpk : PkKey pk) : ∀ a b : List Attr, Srt a → Srt b → ∀ k, lk k (mergeL pk a b) = comb pk (lk k a) (lk k b) := by
  intro a b
  induction a, b using mergeL.induct with
  | case1 => intro _ _ k; unfold mergeL; rfl
  | case2 x a ih =>
    intro ha hb k
    unfold mergeL
    rw [lk_picked (pkA hpk x), ih ha.tail hb k]
    by_cases e : x.key = k
    · subst e
      rw [if_pos rfl, ha.lk_tail, show lk x.key (x :: a) = some x from if_pos rfl, comb_some (some x) _ (.inl (by simp))]
      rfl
    · rw [if_neg e, show lk k (x :: a) = lk k a from if_neg e]
  | case3 y b ih =>
    intro ha hb k
    unfold mergeL
    rw [lk_picked (pkB hpk y), ih ha hb.tail k]
    by_cases e : y.key = k
    · subst e
      rw [if_pos rfl, hb.lk_tail, show lk y.key (y :: b) = some y from if_pos rfl, comb_some _ (some y) (.inr (by simp))]
      rfl
    · rw [if_neg e, show lk k (y :: b) = lk k b from if_neg e]
  | case4 x a y b hl ih =>
    intro ha hb k
    unfold mergeL
    rw [if_pos hl, lk_picked (pkA hpk x), ih ha.tail hb k]
    by_cases e : x.key = k
    · subst e
      rw [if_pos rfl, ha.lk_tail, show lk x.key (x :: a) = some x from if_pos rfl, hb.lk_less hl, comb_some (some x) _ (.inl (by simp))]
      rfl
    · rw [if_neg e, show lk k (x :: a) = lk k a from if_neg e]
  | case5 x a y b hl hl2 ih =>
    intro ha hb k
    unfold mergeL
    rw [if_neg hl, if_pos hl2, lk_picked (pkB hpk y), ih ha hb.tail k]
    by_cases e : y.key = k
    · subst e
      rw [if_pos rfl, hb.lk_tail, show lk y.key (y :: b) = some y from if_pos rfl, ha.lk_less hl2, comb_some _ (some y) (.inr (by simp))]
      rfl
    · rw [if_neg e, show lk k (y :: b) = lk k b from if_neg e]
  | case6 x a y b hl hl2 ih =>
    intro ha hb k
    unfold mergeL
    have e0 := lt_tri (by simpa using hl) (by simpa using hl2)
    rw [if_neg hl, if_neg hl2, lk_picked (pkC hpk x y e0), ih ha.tail hb.tail k]
    by_cases e : x.key = k
    · subst e
      have hb0 := hb.lk_tail
      rw [← e0] at hb0
      rw [if_pos rfl, ha.lk_tail, hb0, show lk x.key (x :: a) = some x from if_pos rfl, show lk x.key (y :: b) = some y from if_pos e0.symm, comb_some (some x) (some y) (.inl (by simp))]
      rfl
    · rw [if_neg e, show lk k (x :: a) = lk k a from if_neg e, show lk k (y :: b) = lk k b from if_neg (fun h => e (e0.trans h))]

/-! ### the four -/
theorem kFollow (first : Bool) : PkKey (pkFollow first) := by
  intro x y k h hx hy hr
  unfold pkFollow at hr ⊢
  cases y with
  | none => cases hr
  | some b =>
    simp only at hr ⊢
    split at hr
    · cases hr
    · next hc => rw [if_neg hc]; exact hy b rfl
theorem kCompose : PkKey pkCompose := by
  intro x y k h hx hy hr
  cases y with
  | some b => exact hy b rfl
  | none =>
    cases x with
    | none => simp at h
    | some a => exact hx a rfl
theorem kApply : PkKey pkApply := by
  intro x y k h hx hy hr
  cases y with
  | some b => exact hy b rfl
  | none =>
    cases x with
    | none => simp at h
    | some a => exact hx a rfl
theorem kInvert : PkKey pkInvert := by
  intro x y k h hx hy hr
  cases y with
  | none => cases hr
  | some b =>
    cases x with
    | none => exact hy b rfl
    | some a => exact hx a rfl
def apM : List Attr → List Attr → List Attr := mergeL pkApply
def cpM : List Attr → List Attr → List Attr := mergeL pkCompose
def flM (first : Bool) : List Attr → List Attr → List Attr := mergeL (pkFollow first)
def ivM : List Attr → List Attr → List Attr := mergeL pkInvert
theorem apM_srt {a b : List Attr} (ha : Srt a) (hb : Srt b) : Srt (apM a b) := merge_srt kApply a b ha hb
theorem cpM_srt {a b : List Attr} (ha : Srt a) (hb : Srt b) : Srt (cpM a b) := merge_srt kCompose a b ha hb
theorem flM_srt {first : Bool} {a b : List Attr} (ha : Srt a) (hb : Srt b) : Srt (flM first a b) := merge_srt (kFollow first) a b ha hb
theorem ivM_srt {a b : List Attr} (ha : Srt a) (hb : Srt b) : Srt (ivM a b) := merge_srt kInvert a b ha hb
def cA (x y : Option Attr) : Option Attr := match y with
  | some b => if b.val.toList.isEmpty then none else some b
  | none => x
def cC (x y : Option Attr) : Option Attr := match y with
  | some b => some b
  | none => x
def cF (first : Bool) (x y : Option Attr) : Option Attr := match y with
  | none => none
  | some b => if x.isSome && !first then none else some b
def cI (x y : Option Attr) : Option Attr := match y with
  | none => none
  | some b => match x with
    | none => if b.val.toList.isEmpty then none else some ⟨b.key, ⟨#[]⟩⟩
    | some a => if a.val = b.val then none else some a
theorem lk_apM {a b : List Attr} (ha : Srt a) (hb : Srt b) (k : ByteArray) : lk k (apM a b) = cA (lk k a) (lk k b) := by
  unfold apM
  rw [lk_merge kApply a b ha hb k]
  unfold comb cA pkApply
  cases lk k a <;> cases lk k b <;> simp
  all_goals split <;> simp_all
theorem lk_cpM {a b : List Attr} (ha : Srt a) (hb : Srt b) (k : ByteArray) : lk k (cpM a b) = cC (lk k a) (lk k b) := by
  unfold cpM
  rw [lk_merge kCompose a b ha hb k]
  unfold comb cC pkCompose
  cases lk k a <;> cases lk k b <;> simp
theorem lk_flM {first : Bool} {a b : List Attr} (ha : Srt a) (hb : Srt b) (k : ByteArray) : lk k (flM first a b) = cF first (lk k a) (lk k b) := by
  unfold flM
  rw [lk_merge (kFollow first) a b ha hb k]
  unfold comb cF pkFollow
  cases lk k a <;> cases lk k b <;> cases first <;> simp
theorem lk_ivM {a b : List Attr} (ha : Srt a) (hb : Srt b) (k : ByteArray) : lk k (ivM a b) = cI (lk k a) (lk k b) := by
  unfold ivM
  rw [lk_merge kInvert a b ha hb k]
  unfold comb cI pkInvert
  cases lk k a with
  | none =>
    cases lk k b with
    | none => rfl
    | some b => by_cases h : b.val.toList.isEmpty = true <;> simp [h]
  | some a =>
    cases lk k b with
    | none => rfl
    | some b =>
      by_cases h : a.val = b.val
      · simp [h]
      · have : ¬ a.val.toList = b.val.toList := fun e => h (toList_inj e)
        simp [h, this]

/-- No attribute of a row is without a value. -/
def Full (l : List Attr) : Prop := ∀ a ∈ l, a.val.toList.isEmpty = false
theorem Full.lk {l : List Attr} (h : Full l) {k : ByteArray} {a : Attr} (e : lk k l = some a) : a.val.toList.isEmpty = false := h a (lk_mem e)
theorem lk_iff_mem {l : List Attr} (hs : Srt l) {a : Attr} (h : a ∈ l) : lk a.key l = some a := lk_some hs h rfl
theorem apM_full {a b : List Attr} (ha : Srt a) (hb : Srt b) (hf : Full a) : Full (apM a b) := by
  intro c hc
  have h := lk_iff_mem (apM_srt ha hb) hc
  rw [lk_apM ha hb] at h
  unfold cA at h
  split at h
  · split at h
    · cases h
    · next hn => cases h; simpa using hn
  · exact hf.lk h
theorem apM_nil (a : List Attr) (ha : Srt a) : apM a [] = a :=
  srt_ext (apM_srt ha .nil) ha fun k => by rw [lk_apM ha .nil]; rfl
theorem cpM_nil (a : List Attr) (ha : Srt a) : cpM a [] = a :=
  srt_ext (cpM_srt ha .nil) ha fun k => by rw [lk_cpM ha .nil]; rfl
theorem nil_cpM (a : List Attr) (ha : Srt a) : cpM [] a = a :=
  srt_ext (cpM_srt .nil ha) ha fun k => by rw [lk_cpM .nil ha]; unfold cC; cases lk k a <;> rfl
theorem nil_flM (first : Bool) (a : List Attr) (ha : Srt a) : flM first [] a = a :=
  srt_ext (flM_srt .nil ha) ha fun k => by rw [lk_flM .nil ha]; unfold cF; cases lk k a <;> rfl
theorem flM_nil (first : Bool) (a : List Attr) (ha : Srt a) : flM first a [] = [] :=
  srt_ext (flM_srt ha .nil) .nil fun k => by rw [lk_flM ha .nil]; rfl
theorem ivM_nil (a : List Attr) (ha : Srt a) : ivM a [] = [] :=
  srt_ext (ivM_srt ha .nil) .nil fun k => by rw [lk_ivM ha .nil]; rfl
theorem apM_cpM {a u v : List Attr} (ha : Srt a) (hu : Srt u) (hv : Srt v) : apM (apM a u) v = apM a (cpM u v) :=
  srt_ext (apM_srt (apM_srt ha hu) hv) (apM_srt ha (cpM_srt hu hv)) fun k => by
    rw [lk_apM (apM_srt ha hu) hv, lk_apM ha hu, lk_apM ha (cpM_srt hu hv), lk_cpM hu hv]
    unfold cA cC
    cases lk k v <;> rfl
theorem cpM_assoc {a u v : List Attr} (ha : Srt a) (hu : Srt u) (hv : Srt v) : cpM (cpM a u) v = cpM a (cpM u v) :=
  srt_ext (cpM_srt (cpM_srt ha hu) hv) (cpM_srt ha (cpM_srt hu hv)) fun k => by
    rw [lk_cpM (cpM_srt ha hu) hv, lk_cpM ha hu, lk_cpM ha (cpM_srt hu hv), lk_cpM hu hv]
    unfold cC
    cases lk k v <;> rfl
theorem apM_flM {first : Bool} {a u v : List Attr} (ha : Srt a) (hu : Srt u) (hv : Srt v) : apM (apM a u) (flM first u v) = apM (apM a v) (flM (!first) v u) :=
  srt_ext (apM_srt (apM_srt ha hu) (flM_srt hu hv)) (apM_srt (apM_srt ha hv) (flM_srt hv hu)) fun k => by
    rw [lk_apM (apM_srt ha hu) (flM_srt hu hv), lk_apM ha hu, lk_flM hu hv, lk_apM (apM_srt ha hv) (flM_srt hv hu), lk_apM ha hv, lk_flM hv hu]
    unfold cA cF
    cases lk k u <;> cases lk k v <;> cases first <;> rfl
theorem cpM_flM {first : Bool} {u v : List Attr} (hu : Srt u) (hv : Srt v) : cpM u (flM first u v) = cpM v (flM (!first) v u) :=
  srt_ext (cpM_srt hu (flM_srt hu hv)) (cpM_srt hv (flM_srt hv hu)) fun k => by
    rw [lk_cpM hu (flM_srt hu hv), lk_flM hu hv, lk_cpM hv (flM_srt hv hu), lk_flM hv hu]
    unfold cC cF
    cases lk k u <;> cases lk k v <;> cases first <;> rfl
theorem isEmp {s : ByteArray} (h : s.toList.isEmpty = true) : s = ⟨#[]⟩ := toList_inj (by rw [List.isEmpty_iff.1 h, ByteArray.toList_eq])
theorem apM_ivM {a u : List Attr} (ha : Srt a) (hu : Srt u) (hf : Full a) : apM (apM a u) (ivM a u) = a :=
  srt_ext (apM_srt (apM_srt ha hu) (ivM_srt ha hu)) ha fun k => by
    rw [lk_apM (apM_srt ha hu) (ivM_srt ha hu), lk_apM ha hu, lk_ivM ha hu]
    unfold cA cI
    cases hb : lk k u with
    | none => rfl
    | some b =>
      have kb := lk_key hb
      cases hx : lk k a with
      | none =>
        simp only
        by_cases he : b.val.toList.isEmpty = true
        · simp only [he, if_true]
        · rw [if_neg he]
          show (if (⟨#[]⟩ : ByteArray).toList.isEmpty = true then none else some _) = none
          rw [if_pos (by rw [ByteArray.toList_eq]; rfl)]
      | some x =>
        have kx := lk_key hx
        have hxf := hf.lk hx
        simp only
        by_cases he : x.val = b.val
        · have : x = b := by cases x; cases b; simp only at kb kx he; subst he; rw [kb, kx]
          subst this
          simp [hxf]
        · simp [he, hxf]
end Go.Proofs.YtaemajcpgmaapaaDoor
