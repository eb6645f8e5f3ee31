/- Which attributes may be: said by rows; what merges make of such as may be. Plain Lean. -/
import Derived.Test.YtaemajcpgmaapaaDoorAttL
namespace Go.Proofs.YtaemajcpgmaapaaDoor

def AtOk (l : List Attr) : Prop := ∀ a ∈ l, keyOk a.key = true ∧ valOk a.val = true
theorem adj_pair {α : Type} {R : α → α → Prop} (tr : ∀ a b c, R a b → R b c → R a c) : ∀ {l : List α}, (∀ k (h : k + 1 < l.length), R (l[k]'(by omega)) l[k + 1]) → l.Pairwise R
  | [], _ => .nil
  | [_], _ => by simp
  | a :: b :: l, h => by
    have ih := adj_pair tr (l := b :: l) fun k hk => h (k + 1) (by simpa using hk)
    have hab : R a b := h 0 (by simp)
    refine List.pairwise_cons.2 ⟨fun c hc => ?_, ih⟩
    cases hc with
    | head => exact hab
    | tail _ hc => exact tr _ _ _ hab ((List.pairwise_cons.1 ih).1 c hc)
theorem pair_adj {α : Type} {R : α → α → Prop} {l : List α} (h : l.Pairwise R) (k : Nat) (hk : k + 1 < l.length) : R (l[k]'(by omega)) l[k + 1] :=
  List.pairwise_iff_getElem.1 h k (k + 1) (by omega) hk (by omega)
theorem chErr_iff {l : List Attr} : chErr l = 0 ↔ l.length ≤ 8 ∧ AtOk l ∧ Srt l := by
  constructor
  · intro h
    have hc : ∀ k, (hk : k < l.length) → atOk l k = true := fun k hk => by
      cases e : atOk l k with
      | true => rfl
      | false => rw [chErr_bad k hk e] at h; cases h
    refine ⟨chOk_len h, fun a ha => ?_, adj_pair (R := fun a b => ltKey a b = true) (fun _ _ _ h k => lt_trans' h k) fun k hk => ?_⟩
    · obtain ⟨k, hk, rfl⟩ := List.getElem_of_mem ha
      have := hc k hk
      rw [atOk_eq k hk, Bool.and_eq_true, Bool.and_eq_true, Bool.and_eq_true] at this
      exact ⟨this.1.1.2, this.1.2⟩
    · have := hc (k + 1) hk
      rw [atOk_eq (k + 1) hk, Bool.and_eq_true, Bool.or_eq_true] at this
      rcases this.2 with h | h
      · exact absurd (eq_of_beq h) (by omega)
      · exact h
  · rintro ⟨h8, ha, hs⟩
    refine chErr_good fun k hk => ?_
    rw [atOk_eq k hk]
    have := ha l[k] (List.getElem_mem hk)
    simp only [Bool.and_eq_true, Bool.or_eq_true, decide_eq_true_eq]
    refine ⟨⟨⟨by omega, this.1⟩, this.2⟩, ?_⟩
    rcases k with _ | k
    · exact .inl rfl
    · exact .inr (pair_adj hs k hk)
theorem anyEmpty_iff {l : List Attr} : anyEmpty l = false ↔ Full l := by
  unfold anyEmpty
  constructor
  · intro h a ha
    cases e : a.val.toList.isEmpty with
    | false => rfl
    | true =>
      exfalso
      have : (l.findIdx? fun a => valEmpty a.val).isSome = true := by
        rw [List.findIdx?_isSome, List.any_eq_true]
        exact ⟨a, ha, e⟩
      obtain ⟨i, hi⟩ := Option.isSome_iff_exists.1 this
      simp only [idxEmpty, hi, decide_eq_false_iff_not] at h
      omega
  · intro h
    rw [idxEmpty_no fun j hj => h l[j] (List.getElem_mem hj)]
    decide
theorem rtErr_iff {l : List Attr} : rtErr l = 0 ↔ chErr l = 0 ∧ Full l := by
  unfold rtErr
  cases e : anyEmpty l with
  | true =>
    simp only [if_true]
    constructor
    · intro h; cases h
    · rintro ⟨_, h⟩
      rw [anyEmpty_iff.2 h] at e; cases e
  | false => exact ⟨fun h => ⟨h, anyEmpty_iff.1 e⟩, fun h => h.1⟩
theorem ch_srt {l : List Attr} (h : chErr l = 0) : Srt l := (chErr_iff.1 h).2.2
theorem rt_srt {l : List Attr} (h : rtErr l = 0) : Srt l := ch_srt (rtErr_iff.1 h).1
theorem rt_full {l : List Attr} (h : rtErr l = 0) : Full l := (rtErr_iff.1 h).2
theorem ch_nil : chErr [] = 0 := chErr_iff.2 ⟨by simp, ⟨fun _ h => (by cases h), List.Pairwise.nil⟩⟩
theorem rt_nil : rtErr [] = 0 := rtErr_iff.2 ⟨ch_nil, fun _ h => (by cases h)⟩

/-- What a merge picks may be, if it picks such. -/
theorem merge_ok {pk : Option Attr → Option Attr → Attr × Bool} {P : Attr → Prop} : ∀ (a b : List Attr),
    (∀ x y, (x ≠ none ∨ y ≠ none) → (∀ u, x = some u → u ∈ a) → (∀ u, y = some u → u ∈ b) → (pk x y).2 = true → P (pk x y).1) → ∀ c ∈ mergeL pk a b, P c := by
  intro a b
  induction a, b using mergeL.induct with
  | case1 => intro _ c h; unfold mergeL at h; cases h
  | case2 x a ih =>
    intro H c h
    unfold mergeL at h
    rcases List.mem_append.1 h with h | h
    · obtain ⟨h1, rfl⟩ := picked_mem.1 h
      exact H (some x) none (.inl (by simp)) (by simp) (by simp) h1
    · exact ih (fun x y h1 h2 h3 => H x y h1 (fun u e => .tail _ (h2 u e)) h3) c h
  | case3 y b ih =>
    intro H c h
    unfold mergeL at h
    rcases List.mem_append.1 h with h | h
    · obtain ⟨h1, rfl⟩ := picked_mem.1 h
      exact H none (some y) (.inr (by simp)) (by simp) (by simp) h1
    · exact ih (fun x y h1 h2 h3 => H x y h1 h2 (fun u e => .tail _ (h3 u e))) c h
  | case4 x a y b hl ih =>
    intro H c h
    unfold mergeL at h
    rw [if_pos hl] at h
    rcases List.mem_append.1 h with h | h
    · obtain ⟨h1, rfl⟩ := picked_mem.1 h
      exact H (some x) none (.inl (by simp)) (by simp) (by simp) h1
    · exact ih (fun x y h1 h2 h3 => H x y h1 (fun u e => .tail _ (h2 u e)) h3) c h
  | case5 x a y b hl hl2 ih =>
    intro H c h
    unfold mergeL at h
    rw [if_neg hl, if_pos hl2] at h
    rcases List.mem_append.1 h with h | h
    · obtain ⟨h1, rfl⟩ := picked_mem.1 h
      exact H none (some y) (.inr (by simp)) (by simp) (by simp) h1
    · exact ih (fun x y h1 h2 h3 => H x y h1 h2 (fun u e => .tail _ (h3 u e))) c h
  | case6 x a y b hl hl2 ih =>
    intro H c h
    unfold mergeL at h
    rw [if_neg hl, if_neg hl2] at h
    rcases List.mem_append.1 h with h | h
    · obtain ⟨h1, rfl⟩ := picked_mem.1 h
      exact H (some x) (some y) (.inl (by simp)) (by simp) (by simp) h1
    · exact ih (fun x y h1 h2 h3 => H x y h1 (fun u e => .tail _ (h2 u e)) (fun u e => .tail _ (h3 u e))) c h
theorem valOk_nil : valOk ⟨#[]⟩ = true := by decide
theorem apM_ok {a b : List Attr} (ha : AtOk a) (hb : AtOk b) : AtOk (apM a b) := by
  refine merge_ok (P := fun c => keyOk c.key = true ∧ valOk c.val = true) a b fun x y h hx hy hr => ?_
  cases y with
  | some v => exact hb v (hy v rfl)
  | none =>
    cases x with
    | none => simp at h
    | some u => exact ha u (hx u rfl)
theorem cpM_ok {a b : List Attr} (ha : AtOk a) (hb : AtOk b) : AtOk (cpM a b) := by
  refine merge_ok (P := fun c => keyOk c.key = true ∧ valOk c.val = true) a b fun x y h hx hy hr => ?_
  cases y with
  | some v => exact hb v (hy v rfl)
  | none =>
    cases x with
    | none => simp at h
    | some u => exact ha u (hx u rfl)
theorem flM_mem {first : Bool} {a b : List Attr} : ∀ c ∈ flM first a b, c ∈ b := by
  refine merge_ok (P := fun c => c ∈ b) a b fun x y h hx hy hr => ?_
  unfold pkFollow at hr ⊢
  cases y with
  | none => cases hr
  | some v =>
    simp only at hr ⊢
    split at hr
    · cases hr
    · next hc => rw [if_neg hc]; exact hy v rfl
theorem flM_ok {first : Bool} {a b : List Attr} (hb : AtOk b) : AtOk (flM first a b) := fun c hc => hb c (flM_mem c hc)
theorem ivM_ok {a b : List Attr} (ha : AtOk a) (hb : AtOk b) : AtOk (ivM a b) := by
  refine merge_ok (P := fun c => keyOk c.key = true ∧ valOk c.val = true) a b fun x y h hx hy hr => ?_
  cases y with
  | none => cases hr
  | some v =>
    cases x with
    | none => exact ⟨(hb v (hy v rfl)).1, valOk_nil⟩
    | some u => exact ha u (hx u rfl)
theorem srt_nodup {l : List Attr} (h : Srt l) : (l.map (·.key)).Nodup := by
  unfold List.Nodup
  rw [List.pairwise_map]
  exact h.imp lt_ne
theorem nodup_len {α : Type} [DecidableEq α] : ∀ {l m : List α}, l.Nodup → (∀ k ∈ l, k ∈ m) → l.length ≤ m.length
  | [], m, _, _ => by simp
  | k :: l, m, hn, hs => by
    have h1 := List.nodup_cons.1 hn
    have hk := hs k (.head _)
    have h2 := nodup_len (m := m.erase k) h1.2 fun j hj => (List.mem_erase_of_ne (fun e => h1.1 (by rw [← e]; exact hj))).2 (hs j (.tail _ hj))
    rw [List.length_erase_of_mem hk] at h2
    have := List.length_pos_of_mem hk
    simp only [List.length_cons]
    omega
/-- A rising row whose keys are another one's is no longer. -/
theorem srt_len {l m : List Attr} (hl : Srt l) (h : ∀ a ∈ l, ∃ b ∈ m, b.key = a.key) : l.length ≤ m.length := by
  have h1 : (l.map (·.key)).length ≤ (m.map (·.key)).length := by
    refine nodup_len (srt_nodup hl) fun k hk => ?_
    obtain ⟨a, ha, rfl⟩ := List.mem_map.1 hk
    obtain ⟨b, hb, e⟩ := h a ha
    exact List.mem_map.2 ⟨b, hb, e⟩
  simpa using h1
theorem flM_len {first : Bool} {a b : List Attr} (ha : Srt a) (hb : Srt b) : (flM first a b).length ≤ b.length :=
  srt_len (flM_srt ha hb) fun c hc => ⟨c, flM_mem c hc, rfl⟩
theorem ivM_len {a b : List Attr} (ha : Srt a) (hb : Srt b) : (ivM a b).length ≤ b.length :=
  srt_len (ivM_srt ha hb) fun c hc => by
    have h := lk_iff_mem (ivM_srt ha hb) hc
    rw [lk_ivM ha hb] at h
    cases hy : lk c.key b with
    | none => rw [hy] at h; cases h
    | some y => exact ⟨y, lk_mem hy, lk_key hy⟩
theorem flM_ch {first : Bool} {a b : List Attr} (ha : chErr a = 0) (hb : chErr b = 0) : chErr (flM first a b) = 0 := by
  obtain ⟨h8, ho, hs⟩ := chErr_iff.1 hb
  exact chErr_iff.2 ⟨Nat.le_trans (flM_len (ch_srt ha) hs) h8, flM_ok ho, flM_srt (ch_srt ha) hs⟩
theorem ivM_ch {a b : List Attr} (ha : chErr a = 0) (hb : chErr b = 0) : chErr (ivM a b) = 0 := by
  obtain ⟨h8, ho, hs⟩ := chErr_iff.1 hb
  exact chErr_iff.2 ⟨Nat.le_trans (ivM_len (ch_srt ha) hs) h8, ivM_ok (chErr_iff.1 ha).2.1 ho, ivM_srt (ch_srt ha) hs⟩
theorem apM_rt {a b : List Attr} (ha : rtErr a = 0) (hb : chErr b = 0) (h8 : (apM a b).length ≤ 8) : rtErr (apM a b) = 0 := by
  obtain ⟨_, ho, hs⟩ := chErr_iff.1 hb
  obtain ⟨_, ho', hs'⟩ := chErr_iff.1 (rtErr_iff.1 ha).1
  exact rtErr_iff.2 ⟨chErr_iff.2 ⟨h8, apM_ok ho' ho, apM_srt hs' hs⟩, apM_full hs' hs (rt_full ha)⟩
theorem cpM_ch {a b : List Attr} (ha : chErr a = 0) (hb : chErr b = 0) (h8 : (cpM a b).length ≤ 8) : chErr (cpM a b) = 0 := by
  obtain ⟨_, ho, hs⟩ := chErr_iff.1 hb
  obtain ⟨_, ho', hs'⟩ := chErr_iff.1 ha
  exact chErr_iff.2 ⟨h8, cpM_ok ho' ho, cpM_srt hs' hs⟩
theorem flL_eq {first : Bool} {a b : List Attr} (ha : chErr a = 0) (hb : chErr b = 0) : flL a b first = flM first a b := by
  have : flErr a b = 0 := if_pos ⟨ha, hb⟩
  unfold flL flM
  rw [if_pos this]
end Go.Proofs.YtaemajcpgmaapaaDoor
