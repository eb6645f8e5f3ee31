/- Texts by runes: what the decoder takes, one piece behind another. Plain Lean. | Attributes as rising rows: what merges make of them, key by key. Plain Lean. | Which attributes may be: said by rows; what merges make of such as may be. Plain Lean. | Changesets as rows of single steps; what a row of steps makes of cells; the one row that says the same. Plain Lean. | Operations and their steps: the normal form of operations is told by their steps. Plain Lean. -/
import Derived.Lib.ValidLaws
import Derived.Lib.RuneCountTail
import Derived.Test.YtaemajcpgmaapaaDoorPkC
import Derived.Test.YtaemajcpgmaapaaDoorPkD
namespace Go.Proofs.YtaemajcpgmaapaaDoor
open Go.Lib

theorem decodeN_ext (n n' b0 b1 b2 b3 c1 c2 c3 : Nat) (h : n ≤ n') (h1 : 1 < n → c1 = b1) (h2 : 2 < n → c2 = b2) (h3 : 3 < n → c3 = b3)
    (hv : ¬ ((decodeN n b0 b1 b2 b3).1 = 65533 ∧ (decodeN n b0 b1 b2 b3).2 = 1)) : decodeN n' b0 c1 c2 c3 = decodeN n b0 b1 b2 b3 := by
  unfold decodeN at hv ⊢
  by_cases a : b0 < 128
  · rw [if_pos a, if_pos a]
  · rw [if_neg a] at hv
    rw [if_neg a, if_neg a]
    by_cases p : b0 / 32 = 6 ∧ (1 < n ∧ b1 / 64 = 2)
    · obtain rfl := h1 p.2.1
      rw [if_pos p, if_pos ⟨p.1, by omega, p.2.2⟩]
    · rw [if_neg p] at hv
      by_cases q : b0 / 16 = 14 ∧ (1 < n ∧ b1 / 64 = 2) ∧ (2 < n ∧ b2 / 64 = 2)
      · obtain rfl := h1 q.2.1.1
        obtain rfl := h2 q.2.2.1
        rw [if_neg p, if_neg (fun h => by omega), if_pos q, if_pos ⟨q.1, ⟨by omega, q.2.1.2⟩, by omega, q.2.2.2⟩]
      · rw [if_neg q] at hv
        by_cases r : b0 / 8 = 30 ∧ (1 < n ∧ b1 / 64 = 2) ∧ (2 < n ∧ b2 / 64 = 2) ∧ (3 < n ∧ b3 / 64 = 2)
        · obtain rfl := h1 r.2.1.1
          obtain rfl := h2 r.2.2.1.1
          obtain rfl := h3 r.2.2.2.1
          rw [if_neg p, if_neg (fun h => by omega), if_neg q, if_neg (fun h => by omega), if_pos r, if_pos ⟨r.1, ⟨by omega, r.2.1.2⟩, ⟨by omega, r.2.2.1.2⟩, by omega, r.2.2.2.2⟩]
        · rw [if_neg r] at hv
          exact absurd ⟨rfl, rfl⟩ hv
theorem decodeL_append (l m : List UInt8) (hne : l ≠ []) (hv : ¬ ((decodeL l).1 = 65533 ∧ (decodeL l).2 = 1)) : decodeL (l ++ m) = decodeL l := by
  have hl : 0 < l.length := List.length_pos_iff.2 hne
  rw [decodeL_N] at hv
  rw [decodeL_N, decodeL_N]
  have e : ∀ k, k < l.length → (l ++ m).getD k 0 = l.getD k 0 := fun k hk => by simp [List.getD, List.getElem?_append_left hk]
  rw [e 0 hl]
  exact decodeN_ext _ _ _ _ _ _ _ _ _ (by simp) (fun h => by rw [e 1 h]) (fun h => by rw [e 2 h]) (fun h => by rw [e 3 h]) hv

theorem decN_le (n b0 b1 b2 b3 : Nat) (hn : 1 ≤ n) : (decodeN n b0 b1 b2 b3).2 ≤ n := by
  unfold decodeN
  repeat' split
  all_goals (simp only; omega)

/-- The pieces that the decoder takes. -/
def chsGo : Nat → List UInt8 → List (List UInt8)
  | 0, _ => []
  | n + 1, l => if l = [] then [] else l.take (decodeL l).2 :: chsGo n (l.drop (decodeL l).2)
def chs (l : List UInt8) : List (List UInt8) := chsGo l.length l
theorem chsGo_fuel : ∀ (n m : Nat) (l : List UInt8), l.length ≤ n → l.length ≤ m → chsGo n l = chsGo m l
  | 0, m, l, hn, _ => by
    obtain rfl : l = [] := List.eq_nil_of_length_eq_zero (by omega)
    cases m <;> simp [chsGo]
  | n + 1, 0, l, _, hm => by
    obtain rfl : l = [] := List.eq_nil_of_length_eq_zero (by omega)
    simp [chsGo]
  | n + 1, m + 1, l, hn, hm => by
    unfold chsGo
    by_cases hne : l = []
    · simp [hne]
    · have hw := decodeL_width l
      have hl : 0 < l.length := List.length_pos_iff.2 hne
      rw [if_neg hne, if_neg hne, chsGo_fuel n m (l.drop (decodeL l).2) (by rw [List.length_drop]; omega) (by rw [List.length_drop]; omega)]
theorem chs_nil : chs [] = [] := rfl
theorem chs_step (l : List UInt8) (hne : l ≠ []) : chs l = l.take (decodeL l).2 :: chs (l.drop (decodeL l).2) := by
  have hl : 0 < l.length := List.length_pos_iff.2 hne
  have hw := decodeL_width l
  obtain ⟨n, hn⟩ : ∃ n, l.length = n + 1 := ⟨l.length - 1, by omega⟩
  unfold chs
  rw [hn]
  show (if l = [] then [] else _) = _
  rw [if_neg hne, chsGo_fuel n (l.drop (decodeL l).2).length _ (by rw [List.length_drop]; omega) (Nat.le_refl _)]
theorem chs_flat : ∀ (n : Nat) (l : List UInt8), l.length ≤ n → (chs l).flatten = l
  | 0, l, h => by
    obtain rfl : l = [] := List.eq_nil_of_length_eq_zero (by omega)
    rfl
  | n + 1, l, h => by
    by_cases hne : l = []
    · subst hne; rfl
    · have hw := decodeL_width l
      have hl : 0 < l.length := List.length_pos_iff.2 hne
      rw [chs_step l hne, List.flatten_cons, chs_flat n (l.drop (decodeL l).2) (by rw [List.length_drop]; omega), List.take_append_drop]
theorem chs_flatten (l : List UInt8) : (chs l).flatten = l := chs_flat _ l (Nat.le_refl _)
theorem chs_eq_nil {l : List UInt8} : chs l = [] ↔ l = [] := by
  constructor
  · intro h
    have := chs_flatten l
    rw [h] at this
    exact this.symm
  · rintro rfl; rfl

/-- Behind a text what follows is taken for itself. -/
theorem valid_app : ∀ (n : Nat) (l m : List UInt8), l.length ≤ n → validD l = true → validD (l ++ m) = validD m ∧ chs (l ++ m) = chs l ++ chs m
  | 0, l, m, h, _ => by
    obtain rfl : l = [] := List.eq_nil_of_length_eq_zero (by omega)
    exact ⟨rfl, rfl⟩
  | n + 1, l, m, h, hv => by
    by_cases hne : l = []
    · subst hne; exact ⟨rfl, rfl⟩
    · have hw := decodeL_width l
      have hl : 0 < l.length := List.length_pos_iff.2 hne
      rw [validD_step l hne] at hv
      split at hv
      · cases hv
      · next hd =>
        have hle : (decodeL l).2 ≤ l.length := by
          rw [decodeL_N]; exact decN_le _ _ _ _ _ hl
        have ha := decodeL_append l m hne hd
        have ih := valid_app n (l.drop (decodeL l).2) m (by rw [List.length_drop]; omega) hv
        have hne2 : l ++ m ≠ [] := by simp [hne]
        rw [validD_step _ hne2, chs_step _ hne2, chs_step l hne, ha, if_neg hd, List.drop_append_of_le_length hle, List.take_append_of_le_length hle, ih.1, ih.2]
        exact ⟨rfl, rfl⟩
theorem valid_append {l : List UInt8} (m : List UInt8) (h : validD l = true) : validD (l ++ m) = validD m := (valid_app _ l m (Nat.le_refl _) h).1
theorem chs_append {l : List UInt8} (m : List UInt8) (h : validD l = true) : chs (l ++ m) = chs l ++ chs m := (valid_app _ l m (Nat.le_refl _) h).2

theorem count_from (s : ByteArray) : ∀ fuel pos, s.size ≤ pos + fuel → runeCountFrom s fuel pos = (chs (s.data.toList.drop pos)).length
  | 0, pos, h => by
    have : s.data.toList.drop pos = [] := List.drop_eq_nil_of_le (by rw [← size_eq]; omega)
    rw [this]; rfl
  | f + 1, pos, h => by
    unfold runeCountFrom
    by_cases hp : pos < s.size
    · rw [if_pos hp]
      have hne : s.data.toList.drop pos ≠ [] := by
        intro h0
        have := congrArg List.length h0
        rw [List.length_drop, ← size_eq] at this
        simp at this
        omega
      have hw := decode_width_pos s pos hp
      rw [chs_step _ hne, decodeL_drop, List.length_cons, List.drop_drop, count_from s f (pos + (Utf8.decode s pos).2) (by omega)]
      omega
    · rw [if_neg hp]
      have : s.data.toList.drop pos = [] := List.drop_eq_nil_of_le (by rw [← size_eq]; omega)
      rw [this]; rfl
theorem count_chs (s : ByteArray) : runeCount s = (chs s.data.toList).length := by
  unfold runeCount
  rw [count_from s s.size 0 (by omega), List.drop_zero]

/-- The first piece of a text is a text of one piece. -/
theorem decodeN_cut (n b0 b1 b2 b3 c1 c2 c3 : Nat) (h1 : 1 < (decodeN n b0 b1 b2 b3).2 → c1 = b1) (h2 : 2 < (decodeN n b0 b1 b2 b3).2 → c2 = b2) (h3 : 3 < (decodeN n b0 b1 b2 b3).2 → c3 = b3)
    (hv : ¬ ((decodeN n b0 b1 b2 b3).1 = 65533 ∧ (decodeN n b0 b1 b2 b3).2 = 1)) : decodeN (decodeN n b0 b1 b2 b3).2 b0 c1 c2 c3 = decodeN n b0 b1 b2 b3 := by
  generalize hr : decodeN n b0 b1 b2 b3 = r at *
  unfold decodeN at hr
  by_cases a : b0 < 128
  · rw [if_pos a] at hr
    unfold decodeN
    rw [if_pos a, hr]
  · rw [if_neg a] at hr
    by_cases p : b0 / 32 = 6 ∧ (1 < n ∧ b1 / 64 = 2)
    · rw [if_pos p] at hr
      split at hr
      · next hc =>
        subst hr
        obtain rfl := h1 (by simp)
        unfold decodeN
        rw [if_neg a, if_pos ⟨p.1, by simp, p.2.2⟩, if_pos hc]
      · subst hr; exact absurd ⟨rfl, rfl⟩ hv
    · rw [if_neg p] at hr
      by_cases q : b0 / 16 = 14 ∧ (1 < n ∧ b1 / 64 = 2) ∧ (2 < n ∧ b2 / 64 = 2)
      · rw [if_pos q] at hr
        split at hr
        · next hc =>
          subst hr
          obtain rfl := h1 (by simp)
          obtain rfl := h2 (by simp)
          unfold decodeN
          rw [if_neg a, if_neg (fun h => by omega), if_pos ⟨q.1, ⟨by simp, q.2.1.2⟩, by simp, q.2.2.2⟩, if_pos hc]
        · subst hr; exact absurd ⟨rfl, rfl⟩ hv
      · rw [if_neg q] at hr
        by_cases s : b0 / 8 = 30 ∧ (1 < n ∧ b1 / 64 = 2) ∧ (2 < n ∧ b2 / 64 = 2) ∧ (3 < n ∧ b3 / 64 = 2)
        · rw [if_pos s] at hr
          split at hr
          · next hc =>
            subst hr
            obtain rfl := h1 (by simp)
            obtain rfl := h2 (by simp)
            obtain rfl := h3 (by simp)
            unfold decodeN
            rw [if_neg a, if_neg (fun h => by omega), if_neg (fun h => by omega), if_pos ⟨s.1, ⟨by simp, s.2.1.2⟩, ⟨by simp, s.2.2.1.2⟩, by simp, s.2.2.2.2⟩, if_pos hc]
          · subst hr; exact absurd ⟨rfl, rfl⟩ hv
        · rw [if_neg s] at hr
          subst hr; exact absurd ⟨rfl, rfl⟩ hv
theorem decodeL_first (l : List UInt8) (hne : l ≠ []) (hv : ¬ ((decodeL l).1 = 65533 ∧ (decodeL l).2 = 1)) : decodeL (l.take (decodeL l).2) = decodeL l ∧ (l.take (decodeL l).2).length = (decodeL l).2 := by
  have hl : 0 < l.length := List.length_pos_iff.2 hne
  have hw := decodeL_width l
  have hle : (decodeL l).2 ≤ l.length := by rw [decodeL_N]; exact decN_le _ _ _ _ _ hl
  have hlen : (l.take (decodeL l).2).length = (decodeL l).2 := by rw [List.length_take]; omega
  refine ⟨?_, hlen⟩
  have e : ∀ k, k < (decodeL l).2 → (l.take (decodeL l).2).getD k 0 = l.getD k 0 := fun k hk => by simp [List.getD, hk]
  rw [decodeL_N (l.take _), hlen, e 0 (by omega)]
  rw [decodeL_N l] at hv e ⊢
  exact decodeN_cut _ _ _ _ _ _ _ _ (fun h => by rw [e 1 h]) (fun h => by rw [e 2 h]) (fun h => by rw [e 3 h]) hv
theorem first_valid (l : List UInt8) (hne : l ≠ []) (hv : ¬ ((decodeL l).1 = 65533 ∧ (decodeL l).2 = 1)) : validD (l.take (decodeL l).2) = true ∧ chs (l.take (decodeL l).2) = [l.take (decodeL l).2] := by
  obtain ⟨h1, h2⟩ := decodeL_first l hne hv
  have hw := decodeL_width l
  have hne2 : l.take (decodeL l).2 ≠ [] := fun e => by rw [e] at h2; simp at h2; omega
  have hd : (l.take (decodeL l).2).drop (decodeL l).2 = [] := List.drop_eq_nil_of_le (by omega)
  have ht : (l.take (decodeL l).2).take (decodeL l).2 = l.take (decodeL l).2 := List.take_of_length_le (by omega)
  rw [validD_step _ hne2, chs_step _ hne2, h1, if_neg hv, hd, ht]
  exact ⟨rfl, rfl⟩
/-- A text, cut between two pieces. -/
theorem chs_split : ∀ (n : Nat) (l : List UInt8), validD l = true → (validD ((chs l).take n).flatten = true ∧ chs ((chs l).take n).flatten = (chs l).take n) ∧ (validD ((chs l).drop n).flatten = true ∧ chs ((chs l).drop n).flatten = (chs l).drop n)
  | 0, l, h => by
    rw [List.take_zero, List.drop_zero, chs_flatten]
    exact ⟨⟨rfl, rfl⟩, h, rfl⟩
  | n + 1, l, h => by
    by_cases hne : l = []
    · subst hne; exact ⟨⟨rfl, rfl⟩, rfl, rfl⟩
    · rw [validD_step l hne] at h
      split at h
      · cases h
      · next hv =>
        obtain ⟨f1, f2⟩ := first_valid l hne hv
        obtain ⟨⟨i1, i2⟩, i3⟩ := chs_split n _ h
        rw [chs_step l hne, List.take_succ_cons, List.drop_succ_cons, List.flatten_cons]
        refine ⟨⟨?_, ?_⟩, i3⟩
        · rw [valid_append _ f1]; exact i1
        · rw [chs_append _ f1, f2, i2]; rfl
end Go.Proofs.YtaemajcpgmaapaaDoor

namespace Go.Proofs.YtaemajcpgmaapaaDoor

theorem bl_irr : ∀ x : List UInt8, Op.bytesLess x x = false
  | [] => rfl
  | a :: x => by simp [Op.bytesLess, bl_irr x]
theorem bl_trans : ∀ x y z : List UInt8, Op.bytesLess x y = true → Op.bytesLess y z = true → Op.bytesLess x z = true
  | _, [], _, h, _ => by simp [Op.bytesLess] at h
  | _, _ :: _, [], _, h => by simp [Op.bytesLess] at h
  | [], _ :: _, _ :: _, _, _ => rfl
  | a :: x, b :: y, c :: z, h, k => by
    simp only [Op.bytesLess, Bool.or_eq_true, decide_eq_true_eq, Bool.and_eq_true, beq_iff_eq] at h k ⊢
    rcases h with h | ⟨rfl, h⟩
    · rcases k with k | ⟨rfl, k⟩
      · exact .inl (UInt8.lt_trans h k)
      · exact .inl h
    · rcases k with k | ⟨rfl, k⟩
      · exact .inl k
      · exact .inr ⟨rfl, bl_trans x y z h k⟩
theorem bl_tri : ∀ x y : List UInt8, Op.bytesLess x y = false → Op.bytesLess y x = false → x = y
  | [], [], _, _ => rfl
  | _ :: _, [], _, h => by simp [Op.bytesLess] at h
  | [], _ :: _, h, _ => by simp [Op.bytesLess] at h
  | a :: x, b :: y, h, k => by
    simp only [Op.bytesLess, Bool.or_eq_false_iff, decide_eq_false_iff_not, Bool.and_eq_false_imp, beq_iff_eq] at h k
    have e : a = b := UInt8.le_antisymm (UInt8.not_lt.1 k.1) (UInt8.not_lt.1 h.1)
    subst e
    rw [bl_tri x y (h.2 rfl) (k.2 rfl)]
theorem lt_irr (a b : Attr) (h : a.key = b.key) : ltKey a b = false := by unfold ltKey; rw [h]; exact bl_irr _
theorem lt_trans' {a b c : Attr} (h : ltKey a b = true) (k : ltKey b c = true) : ltKey a c = true := bl_trans _ _ _ h k
theorem lt_tri {a b : Attr} (h : ltKey a b = false) (k : ltKey b a = false) : a.key = b.key := toList_inj (bl_tri _ _ h k)
theorem lt_ne {a b : Attr} (h : ltKey a b = true) : a.key ≠ b.key := fun e => by rw [lt_irr a b e] at h; cases h

def Srt (l : List Attr) : Prop := l.Pairwise fun a b => ltKey a b = true
def lk (k : ByteArray) : List Attr → Option Attr
  | [] => none
  | a :: l => if a.key = k then some a else lk k l
theorem lk_key {k : ByteArray} : ∀ {l : List Attr} {a : Attr}, lk k l = some a → a.key = k
  | [], _, h => by cases h
  | b :: l, a, h => by
    unfold lk at h
    split at h
    · next e => cases h; exact e
    · exact lk_key h
theorem lk_mem {k : ByteArray} : ∀ {l : List Attr} {a : Attr}, lk k l = some a → a ∈ l
  | [], _, h => by cases h
  | b :: l, a, h => by
    unfold lk at h
    split at h
    · cases h; exact .head _
    · exact .tail _ (lk_mem h)
theorem lk_none {k : ByteArray} : ∀ {l : List Attr}, (∀ a ∈ l, a.key ≠ k) → lk k l = none
  | [], _ => rfl
  | b :: l, h => by
    unfold lk
    rw [if_neg (h b (.head _))]
    exact lk_none fun a ha => h a (.tail _ ha)
theorem lk_some {k : ByteArray} : ∀ {l : List Attr} {a : Attr}, Srt l → a ∈ l → a.key = k → lk k l = some a
  | b :: l, a, hs, ha, hk => by
    unfold lk
    cases ha with
    | head => rw [if_pos hk]
    | tail _ ha =>
      have h2 := List.pairwise_cons.1 hs
      rw [if_neg fun e => lt_ne (h2.1 a ha) (e.trans hk.symm)]
      exact lk_some h2.2 ha hk
theorem Srt.tail {a : Attr} {l : List Attr} (h : Srt (a :: l)) : Srt l := (List.pairwise_cons.1 h).2
theorem Srt.head {a : Attr} {l : List Attr} (h : Srt (a :: l)) : ∀ b ∈ l, ltKey a b = true := (List.pairwise_cons.1 h).1
theorem Srt.lk_tail {a : Attr} {l : List Attr} (h : Srt (a :: l)) : lk a.key l = none := lk_none fun b hb => Ne.symm (lt_ne (h.head b hb))
/-- What is less than the first of a rising row is not in it. -/
theorem Srt.lk_less {a b : Attr} {l : List Attr} (h : Srt (b :: l)) (hl : ltKey a b = true) : lk a.key (b :: l) = none :=
  lk_none fun c hc => by
    cases hc with
    | head => exact Ne.symm (lt_ne hl)
    | tail _ hc => exact Ne.symm (lt_ne (lt_trans' hl (h.head c hc)))
/-- Rising rows are the same if they say the same of each key. -/
theorem srt_ext : ∀ {l m : List Attr}, Srt l → Srt m → (∀ k, lk k l = lk k m) → l = m
  | [], [], _, _, _ => rfl
  | a :: l, [], _, _, h => by have := h a.key; simp [lk] at this
  | [], b :: m, _, _, h => by have := h b.key; simp [lk] at this
  | a :: l, b :: m, h1, h2, h => by
    cases hab : ltKey a b with
    | true => have := h a.key; rw [h2.lk_less hab] at this; simp [lk] at this
    | false =>
      cases hba : ltKey b a with
      | true => have := h b.key; rw [h1.lk_less hba] at this; simp [lk] at this
      | false =>
        have e := lt_tri hab hba
        have e2 : a = b := by have := h a.key; unfold lk at this; rw [if_pos rfl, if_pos e.symm] at this; exact Option.some.inj this
        subst e2
        rw [srt_ext h1.tail h2.tail fun k => ?_]
        by_cases hk : a.key = k
        · subst hk; rw [h1.lk_tail, h2.lk_tail]
        · have := h k; unfold lk at this; rwa [if_neg hk, if_neg hk] at this

/-- What a merge says of a key. -/
def comb (pk : Option Attr → Option Attr → Attr × Bool) (x y : Option Attr) : Option Attr :=
  if x = none ∧ y = none then none else if (pk x y).2 then some (pk x y).1 else none
/-- A picked attribute has the key of those it is picked from. -/
def PkKey (pk : Option Attr → Option Attr → Attr × Bool) : Prop :=
  ∀ x y k, (x ≠ none ∨ y ≠ none) → (∀ a, x = some a → a.key = k) → (∀ b, y = some b → b.key = k) → (pk x y).2 = true → (pk x y).1.key = k
theorem picked_mem {r : Attr × Bool} {a : Attr} : a ∈ picked r ↔ r.2 = true ∧ a = r.1 := by
  unfold picked
  split
  · next h => simp [h]
  · next h => simp [h]
theorem ltKey_congr {a b a' b' : Attr} (h : a.key = a'.key) (k : b.key = b'.key) : ltKey a b = ltKey a' b' := by unfold ltKey; rw [h, k]
theorem srt_picked {r : Attr × Bool} {l : List Attr} (hl : Srt l) (h : r.2 = true → ∀ b ∈ l, ltKey r.1 b = true) : Srt (picked r ++ l) := by
  unfold picked
  split
  · next hr => exact List.pairwise_cons.2 ⟨h hr, hl⟩
  · exact hl
theorem lk_picked {r : Attr × Bool} {M : List Attr} {k k0 : ByteArray} (h : r.2 = true → r.1.key = k0) : lk k (picked r ++ M) = if k0 = k then (if r.2 then some r.1 else lk k M) else lk k M := by
  unfold picked
  by_cases hr : r.2 = true
  · rw [if_pos hr, if_pos hr]
    show (if r.1.key = k then some r.1 else lk k M) = _
    rw [h hr]
  · rw [if_neg hr, if_neg hr]
    split <;> rfl
theorem pkA {pk : Option Attr → Option Attr → Attr × Bool} (hpk : PkKey pk) (x : Attr) : (pk (some x) none).2 = true → (pk (some x) none).1.key = x.key :=
  hpk (some x) none x.key (.inl (by simp)) (by simp) (by simp)
theorem pkB {pk : Option Attr → Option Attr → Attr × Bool} (hpk : PkKey pk) (y : Attr) : (pk none (some y)).2 = true → (pk none (some y)).1.key = y.key :=
  hpk none (some y) y.key (.inr (by simp)) (by simp) (by simp)
theorem pkC {pk : Option Attr → Option Attr → Attr × Bool} (hpk : PkKey pk) (x y : Attr) (e : x.key = y.key) : (pk (some x) (some y)).2 = true → (pk (some x) (some y)).1.key = x.key :=
  hpk (some x) (some y) x.key (.inl (by simp)) (by simp) (by intro b hb; cases hb; exact e.symm)
/-- Each attribute of a merge has a key of one of the two. -/
theorem merge_keys {pk : Option Attr → Option Attr → Attr × Bool} (hpk : PkKey pk) : ∀ (a b : List Attr) (c : Attr), c ∈ mergeL pk a b → (∃ x ∈ a, x.key = c.key) ∨ ∃ y ∈ b, y.key = c.key := by
  intro a b
  induction a, b using mergeL.induct with
  | case1 => intro c h; unfold mergeL at h; cases h
  | case2 x a ih =>
    intro c h
    unfold mergeL at h
    rcases List.mem_append.1 h with h | h
    · obtain ⟨h1, rfl⟩ := picked_mem.1 h
      exact .inl ⟨x, .head _, (pkA hpk x h1).symm⟩
    · rcases ih c h with ⟨y, hy, e⟩ | ⟨y, hy, e⟩
      · exact .inl ⟨y, .tail _ hy, e⟩
      · cases hy
  | case3 y b ih =>
    intro c h
    unfold mergeL at h
    rcases List.mem_append.1 h with h | h
    · obtain ⟨h1, rfl⟩ := picked_mem.1 h
      exact .inr ⟨y, .head _, (pkB hpk y h1).symm⟩
    · rcases ih c h with ⟨x, hx, e⟩ | ⟨x, hx, e⟩
      · cases hx
      · exact .inr ⟨x, .tail _ hx, e⟩
  | case4 x a y b hl ih =>
    intro c h
    unfold mergeL at h
    rw [if_pos hl] at h
    rcases List.mem_append.1 h with h | h
    · obtain ⟨h1, rfl⟩ := picked_mem.1 h
      exact .inl ⟨x, .head _, (pkA hpk x h1).symm⟩
    · rcases ih c h with ⟨z, hz, e⟩ | ⟨z, hz, e⟩
      · exact .inl ⟨z, .tail _ hz, e⟩
      · exact .inr ⟨z, hz, e⟩
  | case5 x a y b hl hl2 ih =>
    intro c h
    unfold mergeL at h
    rw [if_neg hl, if_pos hl2] at h
    rcases List.mem_append.1 h with h | h
    · obtain ⟨h1, rfl⟩ := picked_mem.1 h
      exact .inr ⟨y, .head _, (pkB hpk y h1).symm⟩
    · rcases ih c h with ⟨z, hz, e⟩ | ⟨z, hz, e⟩
      · exact .inl ⟨z, hz, e⟩
      · exact .inr ⟨z, .tail _ hz, e⟩
  | case6 x a y b hl hl2 ih =>
    intro c h
    unfold mergeL at h
    rw [if_neg hl, if_neg hl2] at h
    have e0 := lt_tri (by simpa using hl) (by simpa using hl2)
    rcases List.mem_append.1 h with h | h
    · obtain ⟨h1, rfl⟩ := picked_mem.1 h
      exact .inl ⟨x, .head _, (pkC hpk x y e0 h1).symm⟩
    · rcases ih c h with ⟨z, hz, e⟩ | ⟨z, hz, e⟩
      · exact .inl ⟨z, .tail _ hz, e⟩
      · exact .inr ⟨z, .tail _ hz, e⟩
theorem merge_srt {pk : Option Attr → Option Attr → Attr × Bool} (hpk : PkKey pk) : ∀ a b : List Attr, Srt a → Srt b → Srt (mergeL pk a b) := by
  intro a b
  induction a, b using mergeL.induct with
  | case1 => intro _ _; unfold mergeL; exact List.Pairwise.nil
  | case2 x a ih =>
    intro ha hb
    unfold mergeL
    refine srt_picked (ih ha.tail hb) fun hr c hc => ?_
    rcases merge_keys hpk _ _ c hc with ⟨z, hz, e⟩ | ⟨z, hz, e⟩
    · rw [← ltKey_congr (pkA hpk x hr).symm e]; exact ha.head z hz
    · cases hz
  | case3 y b ih =>
    intro ha hb
    unfold mergeL
    refine srt_picked (ih ha hb.tail) fun hr c hc => ?_
    rcases merge_keys hpk _ _ c hc with ⟨z, hz, e⟩ | ⟨z, hz, e⟩
    · cases hz
    · rw [← ltKey_congr (pkB hpk y hr).symm e]; exact hb.head z hz
  | case4 x a y b hl ih =>
    intro ha hb
    unfold mergeL
    rw [if_pos hl]
    refine srt_picked (ih ha.tail hb) fun hr c hc => ?_
    rcases merge_keys hpk _ _ c hc with ⟨z, hz, e⟩ | ⟨z, hz, e⟩
    · rw [← ltKey_congr (pkA hpk x hr).symm e]; exact ha.head z hz
    · rw [← ltKey_congr (pkA hpk x hr).symm e]
      cases hz with
      | head => exact hl
      | tail _ hz => exact lt_trans' hl (hb.head z hz)
  | case5 x a y b hl hl2 ih =>
    intro ha hb
    unfold mergeL
    rw [if_neg hl, if_pos hl2]
    refine srt_picked (ih ha hb.tail) fun hr c hc => ?_
    rcases merge_keys hpk _ _ c hc with ⟨z, hz, e⟩ | ⟨z, hz, e⟩
    · rw [← ltKey_congr (pkB hpk y hr).symm e]
      cases hz with
      | head => exact hl2
      | tail _ hz => exact lt_trans' hl2 (ha.head z hz)
    · rw [← ltKey_congr (pkB hpk y hr).symm e]; exact hb.head z hz
  | case6 x a y b hl hl2 ih =>
    intro ha hb
    unfold mergeL
    rw [if_neg hl, if_neg hl2]
    have e0 := lt_tri (by simpa using hl) (by simpa using hl2)
    refine srt_picked (ih ha.tail hb.tail) fun hr c hc => ?_
    rcases merge_keys hpk _ _ c hc with ⟨z, hz, e⟩ | ⟨z, hz, e⟩
    · rw [← ltKey_congr (pkC hpk x y e0 hr).symm e]; exact ha.head z hz
    · rw [← ltKey_congr ((pkC hpk x y e0 hr).trans e0).symm e]; exact hb.head z hz
theorem comb_some {pk : Option Attr → Option Attr → Attr × Bool} (x y : Option Attr) (h : x ≠ none ∨ y ≠ none) : comb pk x y = if (pk x y).2 then some (pk x y).1 else none := by
  unfold comb
  rw [if_neg (by rintro ⟨rfl, rfl⟩; simp at h)]
theorem comb_none {pk : Option Attr → Option Attr → Attr × Bool} : comb pk none none = none := rfl
theorem lk_merge {pk : Option Attr → Option Attr → Attr × Bool} (hpk : PkKey pk) : ∀ a b : List Attr, Srt a → Srt b → ∀ k, lk k (mergeL pk a b) = comb pk (lk k a) (lk k b) := by
  intro a b
  induction a, b using mergeL.induct with
  | case1 => intro _ _ k; unfold mergeL; rfl
  | case2 x a ih =>
    intro ha hb k
    unfold mergeL
    rw [lk_picked (pkA hpk x), ih ha.tail hb k]
    by_cases e : x.key = k
    · subst e
      rw [if_pos rfl, ha.lk_tail, show lk x.key (x :: a) = some x from if_pos rfl, comb_some (some x) _ (.inl (by simp))]
      rfl
    · rw [if_neg e, show lk k (x :: a) = lk k a from if_neg e]
  | case3 y b ih =>
    intro ha hb k
    unfold mergeL
    rw [lk_picked (pkB hpk y), ih ha hb.tail k]
    by_cases e : y.key = k
    · subst e
      rw [if_pos rfl, hb.lk_tail, show lk y.key (y :: b) = some y from if_pos rfl, comb_some _ (some y) (.inr (by simp))]
      rfl
    · rw [if_neg e, show lk k (y :: b) = lk k b from if_neg e]
  | case4 x a y b hl ih =>
    intro ha hb k
    unfold mergeL
    rw [if_pos hl, lk_picked (pkA hpk x), ih ha.tail hb k]
    by_cases e : x.key = k
    · subst e
      rw [if_pos rfl, ha.lk_tail, show lk x.key (x :: a) = some x from if_pos rfl, hb.lk_less hl, comb_some (some x) _ (.inl (by simp))]
      rfl
    · rw [if_neg e, show lk k (x :: a) = lk k a from if_neg e]
  | case5 x a y b hl hl2 ih =>
    intro ha hb k
    unfold mergeL
    rw [if_neg hl, if_pos hl2, lk_picked (pkB hpk y), ih ha hb.tail k]
    by_cases e : y.key = k
    · subst e
      rw [if_pos rfl, hb.lk_tail, show lk y.key (y :: b) = some y from if_pos rfl, ha.lk_less hl2, comb_some _ (some y) (.inr (by simp))]
      rfl
    · rw [if_neg e, show lk k (y :: b) = lk k b from if_neg e]
  | case6 x a y b hl hl2 ih =>
    intro ha hb k
    unfold mergeL
    have e0 := lt_tri (by simpa using hl) (by simpa using hl2)
    rw [if_neg hl, if_neg hl2, lk_picked (pkC hpk x y e0), ih ha.tail hb.tail k]
    by_cases e : x.key = k
    · subst e
      have hb0 := hb.lk_tail
      rw [← e0] at hb0
      rw [if_pos rfl, ha.lk_tail, hb0, show lk x.key (x :: a) = some x from if_pos rfl, show lk x.key (y :: b) = some y from if_pos e0.symm, comb_some (some x) (some y) (.inl (by simp))]
      rfl
    · rw [if_neg e, show lk k (x :: a) = lk k a from if_neg e, show lk k (y :: b) = lk k b from if_neg (fun h => e (e0.trans h))]

/-! ### the four -/
theorem kFollow (first : Bool) : PkKey (pkFollow first) := by
  intro x y k h hx hy hr
  unfold pkFollow at hr ⊢
  cases y with
  | none => cases hr
  | some b =>
    simp only at hr ⊢
    split at hr
    · cases hr
    · next hc => rw [if_neg hc]; exact hy b rfl
theorem kCompose : PkKey pkCompose := by
  intro x y k h hx hy hr
  cases y with
  | some b => exact hy b rfl
  | none =>
    cases x with
    | none => simp at h
    | some a => exact hx a rfl
theorem kApply : PkKey pkApply := by
  intro x y k h hx hy hr
  cases y with
  | some b => exact hy b rfl
  | none =>
    cases x with
    | none => simp at h
    | some a => exact hx a rfl
theorem kInvert : PkKey pkInvert := by
  intro x y k h hx hy hr
  cases y with
  | none => cases hr
  | some b =>
    cases x with
    | none => exact hy b rfl
    | some a => exact hx a rfl
def apM : List Attr → List Attr → List Attr := mergeL pkApply
def cpM : List Attr → List Attr → List Attr := mergeL pkCompose
def flM (first : Bool) : List Attr → List Attr → List Attr := mergeL (pkFollow first)
def ivM : List Attr → List Attr → List Attr := mergeL pkInvert
theorem apM_srt {a b : List Attr} (ha : Srt a) (hb : Srt b) : Srt (apM a b) := merge_srt kApply a b ha hb
theorem cpM_srt {a b : List Attr} (ha : Srt a) (hb : Srt b) : Srt (cpM a b) := merge_srt kCompose a b ha hb
theorem flM_srt {first : Bool} {a b : List Attr} (ha : Srt a) (hb : Srt b) : Srt (flM first a b) := merge_srt (kFollow first) a b ha hb
theorem ivM_srt {a b : List Attr} (ha : Srt a) (hb : Srt b) : Srt (ivM a b) := merge_srt kInvert a b ha hb
def cA (x y : Option Attr) : Option Attr := match y with
  | some b => if b.val.toList.isEmpty then none else some b
  | none => x
def cC (x y : Option Attr) : Option Attr := match y with
  | some b => some b
  | none => x
def cF (first : Bool) (x y : Option Attr) : Option Attr := match y with
  | none => none
  | some b => if x.isSome && !first then none else some b
def cI (x y : Option Attr) : Option Attr := match y with
  | none => none
  | some b => match x with
    | none => if b.val.toList.isEmpty then none else some ⟨b.key, ⟨#[]⟩⟩
    | some a => if a.val = b.val then none else some a
theorem lk_apM {a b : List Attr} (ha : Srt a) (hb : Srt b) (k : ByteArray) : lk k (apM a b) = cA (lk k a) (lk k b) := by
  unfold apM
  rw [lk_merge kApply a b ha hb k]
  unfold comb cA pkApply
  cases lk k a <;> cases lk k b <;> simp
  all_goals split <;> simp_all
theorem lk_cpM {a b : List Attr} (ha : Srt a) (hb : Srt b) (k : ByteArray) : lk k (cpM a b) = cC (lk k a) (lk k b) := by
  unfold cpM
  rw [lk_merge kCompose a b ha hb k]
  unfold comb cC pkCompose
  cases lk k a <;> cases lk k b <;> simp
theorem lk_flM {first : Bool} {a b : List Attr} (ha : Srt a) (hb : Srt b) (k : ByteArray) : lk k (flM first a b) = cF first (lk k a) (lk k b) := by
  unfold flM
  rw [lk_merge (kFollow first) a b ha hb k]
  unfold comb cF pkFollow
  cases lk k a <;> cases lk k b <;> cases first <;> simp
theorem lk_ivM {a b : List Attr} (ha : Srt a) (hb : Srt b) (k : ByteArray) : lk k (ivM a b) = cI (lk k a) (lk k b) := by
  unfold ivM
  rw [lk_merge kInvert a b ha hb k]
  unfold comb cI pkInvert
  cases lk k a with
  | none =>
    cases lk k b with
    | none => rfl
    | some b => by_cases h : b.val.toList.isEmpty = true <;> simp [h]
  | some a =>
    cases lk k b with
    | none => rfl
    | some b =>
      by_cases h : a.val = b.val
      · simp [h]
      · have : ¬ a.val.toList = b.val.toList := fun e => h (toList_inj e)
        simp [h, this]

/-- No attribute of a row is without a value. -/
def Full (l : List Attr) : Prop := ∀ a ∈ l, a.val.toList.isEmpty = false
theorem Full.lk {l : List Attr} (h : Full l) {k : ByteArray} {a : Attr} (e : lk k l = some a) : a.val.toList.isEmpty = false := h a (lk_mem e)
theorem lk_iff_mem {l : List Attr} (hs : Srt l) {a : Attr} (h : a ∈ l) : lk a.key l = some a := lk_some hs h rfl
theorem apM_full {a b : List Attr} (ha : Srt a) (hb : Srt b) (hf : Full a) : Full (apM a b) := by
  intro c hc
  have h := lk_iff_mem (apM_srt ha hb) hc
  rw [lk_apM ha hb] at h
  unfold cA at h
  split at h
  · split at h
    · cases h
    · next hn => cases h; simpa using hn
  · exact hf.lk h
theorem apM_nil (a : List Attr) (ha : Srt a) : apM a [] = a :=
  srt_ext (apM_srt ha .nil) ha fun k => by rw [lk_apM ha .nil]; rfl
theorem cpM_nil (a : List Attr) (ha : Srt a) : cpM a [] = a :=
  srt_ext (cpM_srt ha .nil) ha fun k => by rw [lk_cpM ha .nil]; rfl
theorem nil_cpM (a : List Attr) (ha : Srt a) : cpM [] a = a :=
  srt_ext (cpM_srt .nil ha) ha fun k => by rw [lk_cpM .nil ha]; unfold cC; cases lk k a <;> rfl
theorem nil_flM (first : Bool) (a : List Attr) (ha : Srt a) : flM first [] a = a :=
  srt_ext (flM_srt .nil ha) ha fun k => by rw [lk_flM .nil ha]; unfold cF; cases lk k a <;> rfl
theorem flM_nil (first : Bool) (a : List Attr) (ha : Srt a) : flM first a [] = [] :=
  srt_ext (flM_srt ha .nil) .nil fun k => by rw [lk_flM ha .nil]; rfl
theorem ivM_nil (a : List Attr) (ha : Srt a) : ivM a [] = [] :=
  srt_ext (ivM_srt ha .nil) .nil fun k => by rw [lk_ivM ha .nil]; rfl
theorem apM_cpM {a u v : List Attr} (ha : Srt a) (hu : Srt u) (hv : Srt v) : apM (apM a u) v = apM a (cpM u v) :=
  srt_ext (apM_srt (apM_srt ha hu) hv) (apM_srt ha (cpM_srt hu hv)) fun k => by
    rw [lk_apM (apM_srt ha hu) hv, lk_apM ha hu, lk_apM ha (cpM_srt hu hv), lk_cpM hu hv]
    unfold cA cC
    cases lk k v <;> rfl
theorem cpM_assoc {a u v : List Attr} (ha : Srt a) (hu : Srt u) (hv : Srt v) : cpM (cpM a u) v = cpM a (cpM u v) :=
  srt_ext (cpM_srt (cpM_srt ha hu) hv) (cpM_srt ha (cpM_srt hu hv)) fun k => by
    rw [lk_cpM (cpM_srt ha hu) hv, lk_cpM ha hu, lk_cpM ha (cpM_srt hu hv), lk_cpM hu hv]
    unfold cC
    cases lk k v <;> rfl
theorem apM_flM {first : Bool} {a u v : List Attr} (ha : Srt a) (hu : Srt u) (hv : Srt v) : apM (apM a u) (flM first u v) = apM (apM a v) (flM (!first) v u) :=
  srt_ext (apM_srt (apM_srt ha hu) (flM_srt hu hv)) (apM_srt (apM_srt ha hv) (flM_srt hv hu)) fun k => by
    rw [lk_apM (apM_srt ha hu) (flM_srt hu hv), lk_apM ha hu, lk_flM hu hv, lk_apM (apM_srt ha hv) (flM_srt hv hu), lk_apM ha hv, lk_flM hv hu]
    unfold cA cF
    cases lk k u <;> cases lk k v <;> cases first <;> rfl
theorem cpM_flM {first : Bool} {u v : List Attr} (hu : Srt u) (hv : Srt v) : cpM u (flM first u v) = cpM v (flM (!first) v u) :=
  srt_ext (cpM_srt hu (flM_srt hu hv)) (cpM_srt hv (flM_srt hv hu)) fun k => by
    rw [lk_cpM hu (flM_srt hu hv), lk_flM hu hv, lk_cpM hv (flM_srt hv hu), lk_flM hv hu]
    unfold cC cF
    cases lk k u <;> cases lk k v <;> cases first <;> rfl
theorem isEmp {s : ByteArray} (h : s.toList.isEmpty = true) : s = ⟨#[]⟩ := toList_inj (by rw [List.isEmpty_iff.1 h, ByteArray.toList_eq])
theorem apM_ivM {a u : List Attr} (ha : Srt a) (hu : Srt u) (hf : Full a) : apM (apM a u) (ivM a u) = a :=
  srt_ext (apM_srt (apM_srt ha hu) (ivM_srt ha hu)) ha fun k => by
    rw [lk_apM (apM_srt ha hu) (ivM_srt ha hu), lk_apM ha hu, lk_ivM ha hu]
    unfold cA cI
    cases hb : lk k u with
    | none => rfl
    | some b =>
      have kb := lk_key hb
      cases hx : lk k a with
      | none =>
        simp only
        by_cases he : b.val.toList.isEmpty = true
        · simp only [he, if_true]
        · rw [if_neg he]
          show (if (⟨#[]⟩ : ByteArray).toList.isEmpty = true then none else some _) = none
          rw [if_pos (by rw [ByteArray.toList_eq]; rfl)]
      | some x =>
        have kx := lk_key hx
        have hxf := hf.lk hx
        simp only
        by_cases he : x.val = b.val
        · have : x = b := by cases x; cases b; simp only at kb kx he; subst he; rw [kb, kx]
          subst this
          simp [hxf]
        · simp [he, hxf]
end Go.Proofs.YtaemajcpgmaapaaDoor

namespace Go.Proofs.YtaemajcpgmaapaaDoor

def AtOk (l : List Attr) : Prop := ∀ a ∈ l, keyOk a.key = true ∧ valOk a.val = true
theorem adj_pair {α : Type} {R : α → α → Prop} (tr : ∀ a b c, R a b → R b c → R a c) : ∀ {l : List α}, (∀ k (h : k + 1 < l.length), R (l[k]'(by omega)) l[k + 1]) → l.Pairwise R
  | [], _ => .nil
  | [_], _ => by simp
  | a :: b :: l, h => by
    have ih := adj_pair tr (l := b :: l) fun k hk => h (k + 1) (by simpa using hk)
    have hab : R a b := h 0 (by simp)
    refine List.pairwise_cons.2 ⟨fun c hc => ?_, ih⟩
    cases hc with
    | head => exact hab
    | tail _ hc => exact tr _ _ _ hab ((List.pairwise_cons.1 ih).1 c hc)
theorem pair_adj {α : Type} {R : α → α → Prop} {l : List α} (h : l.Pairwise R) (k : Nat) (hk : k + 1 < l.length) : R (l[k]'(by omega)) l[k + 1] :=
  List.pairwise_iff_getElem.1 h k (k + 1) (by omega) hk (by omega)
theorem chErr_iff {l : List Attr} : chErr l = 0 ↔ l.length ≤ 8 ∧ AtOk l ∧ Srt l := by
  constructor
  · intro h
    have hc : ∀ k, (hk : k < l.length) → atOk l k = true := fun k hk => by
      cases e : atOk l k with
      | true => rfl
      | false => rw [chErr_bad k hk e] at h; cases h
    refine ⟨chOk_len h, fun a ha => ?_, adj_pair (R := fun a b => ltKey a b = true) (fun _ _ _ h k => lt_trans' h k) fun k hk => ?_⟩
    · obtain ⟨k, hk, rfl⟩ := List.getElem_of_mem ha
      have := hc k hk
      rw [atOk_eq k hk, Bool.and_eq_true, Bool.and_eq_true, Bool.and_eq_true] at this
      exact ⟨this.1.1.2, this.1.2⟩
    · have := hc (k + 1) hk
      rw [atOk_eq (k + 1) hk, Bool.and_eq_true, Bool.or_eq_true] at this
      rcases this.2 with h | h
      · exact absurd (eq_of_beq h) (by omega)
      · exact h
  · rintro ⟨h8, ha, hs⟩
    refine chErr_good fun k hk => ?_
    rw [atOk_eq k hk]
    have := ha l[k] (List.getElem_mem hk)
    simp only [Bool.and_eq_true, Bool.or_eq_true, decide_eq_true_eq]
    refine ⟨⟨⟨by omega, this.1⟩, this.2⟩, ?_⟩
    rcases k with _ | k
    · exact .inl rfl
    · exact .inr (pair_adj hs k hk)
theorem anyEmpty_iff {l : List Attr} : anyEmpty l = false ↔ Full l := by
  unfold anyEmpty
  constructor
  · intro h a ha
    cases e : a.val.toList.isEmpty with
    | false => rfl
    | true =>
      exfalso
      have : (l.findIdx? fun a => valEmpty a.val).isSome = true := by
        rw [List.findIdx?_isSome, List.any_eq_true]
        exact ⟨a, ha, e⟩
      obtain ⟨i, hi⟩ := Option.isSome_iff_exists.1 this
      simp only [idxEmpty, hi, decide_eq_false_iff_not] at h
      omega
  · intro h
    rw [idxEmpty_no fun j hj => h l[j] (List.getElem_mem hj)]
    decide
theorem rtErr_iff {l : List Attr} : rtErr l = 0 ↔ chErr l = 0 ∧ Full l := by
  unfold rtErr
  cases e : anyEmpty l with
  | true =>
    simp only [if_true]
    constructor
    · intro h; cases h
    · rintro ⟨_, h⟩
      rw [anyEmpty_iff.2 h] at e; cases e
  | false => exact ⟨fun h => ⟨h, anyEmpty_iff.1 e⟩, fun h => h.1⟩
theorem ch_srt {l : List Attr} (h : chErr l = 0) : Srt l := (chErr_iff.1 h).2.2
theorem rt_srt {l : List Attr} (h : rtErr l = 0) : Srt l := ch_srt (rtErr_iff.1 h).1
theorem rt_full {l : List Attr} (h : rtErr l = 0) : Full l := (rtErr_iff.1 h).2
theorem ch_nil : chErr [] = 0 := chErr_iff.2 ⟨by simp, ⟨fun _ h => (by cases h), List.Pairwise.nil⟩⟩
theorem rt_nil : rtErr [] = 0 := rtErr_iff.2 ⟨ch_nil, fun _ h => (by cases h)⟩

/-- What a merge picks may be, if it picks such. -/
theorem merge_ok {pk : Option Attr → Option Attr → Attr × Bool} {P : Attr → Prop} : ∀ (a b : List Attr),
    (∀ x y, (x ≠ none ∨ y ≠ none) → (∀ u, x = some u → u ∈ a) → (∀ u, y = some u → u ∈ b) → (pk x y).2 = true → P (pk x y).1) → ∀ c ∈ mergeL pk a b, P c := by
  intro a b
  induction a, b using mergeL.induct with
  | case1 => intro _ c h; unfold mergeL at h; cases h
  | case2 x a ih =>
    intro H c h
    unfold mergeL at h
    rcases List.mem_append.1 h with h | h
    · obtain ⟨h1, rfl⟩ := picked_mem.1 h
      exact H (some x) none (.inl (by simp)) (by simp) (by simp) h1
    · exact ih (fun x y h1 h2 h3 => H x y h1 (fun u e => .tail _ (h2 u e)) h3) c h
  | case3 y b ih =>
    intro H c h
    unfold mergeL at h
    rcases List.mem_append.1 h with h | h
    · obtain ⟨h1, rfl⟩ := picked_mem.1 h
      exact H none (some y) (.inr (by simp)) (by simp) (by simp) h1
    · exact ih (fun x y h1 h2 h3 => H x y h1 h2 (fun u e => .tail _ (h3 u e))) c h
  | case4 x a y b hl ih =>
    intro H c h
    unfold mergeL at h
    rw [if_pos hl] at h
    rcases List.mem_append.1 h with h | h
    · obtain ⟨h1, rfl⟩ := picked_mem.1 h
      exact H (some x) none (.inl (by simp)) (by simp) (by simp) h1
    · exact ih (fun x y h1 h2 h3 => H x y h1 (fun u e => .tail _ (h2 u e)) h3) c h
  | case5 x a y b hl hl2 ih =>
    intro H c h
    unfold mergeL at h
    rw [if_neg hl, if_pos hl2] at h
    rcases List.mem_append.1 h with h | h
    · obtain ⟨h1, rfl⟩ := picked_mem.1 h
      exact H none (some y) (.inr (by simp)) (by simp) (by simp) h1
    · exact ih (fun x y h1 h2 h3 => H x y h1 h2 (fun u e => .tail _ (h3 u e))) c h
  | case6 x a y b hl hl2 ih =>
    intro H c h
    unfold mergeL at h
    rw [if_neg hl, if_neg hl2] at h
    rcases List.mem_append.1 h with h | h
    · obtain ⟨h1, rfl⟩ := picked_mem.1 h
      exact H (some x) (some y) (.inl (by simp)) (by simp) (by simp) h1
    · exact ih (fun x y h1 h2 h3 => H x y h1 (fun u e => .tail _ (h2 u e)) (fun u e => .tail _ (h3 u e))) c h
theorem valOk_nil : valOk ⟨#[]⟩ = true := by decide
theorem apM_ok {a b : List Attr} (ha : AtOk a) (hb : AtOk b) : AtOk (apM a b) := by
  refine merge_ok (P := fun c => keyOk c.key = true ∧ valOk c.val = true) a b fun x y h hx hy hr => ?_
  cases y with
  | some v => exact hb v (hy v rfl)
  | none =>
    cases x with
    | none => simp at h
    | some u => exact ha u (hx u rfl)
theorem cpM_ok {a b : List Attr} (ha : AtOk a) (hb : AtOk b) : AtOk (cpM a b) := by
  refine merge_ok (P := fun c => keyOk c.key = true ∧ valOk c.val = true) a b fun x y h hx hy hr => ?_
  cases y with
  | some v => exact hb v (hy v rfl)
  | none =>
    cases x with
    | none => simp at h
    | some u => exact ha u (hx u rfl)
theorem flM_mem {first : Bool} {a b : List Attr} : ∀ c ∈ flM first a b, c ∈ b := by
  refine merge_ok (P := fun c => c ∈ b) a b fun x y h hx hy hr => ?_
  unfold pkFollow at hr ⊢
  cases y with
  | none => cases hr
  | some v =>
    simp only at hr ⊢
    split at hr
    · cases hr
    · next hc => rw [if_neg hc]; exact hy v rfl
theorem flM_ok {first : Bool} {a b : List Attr} (hb : AtOk b) : AtOk (flM first a b) := fun c hc => hb c (flM_mem c hc)
theorem ivM_ok {a b : List Attr} (ha : AtOk a) (hb : AtOk b) : AtOk (ivM a b) := by
  refine merge_ok (P := fun c => keyOk c.key = true ∧ valOk c.val = true) a b fun x y h hx hy hr => ?_
  cases y with
  | none => cases hr
  | some v =>
    cases x with
    | none => exact ⟨(hb v (hy v rfl)).1, valOk_nil⟩
    | some u => exact ha u (hx u rfl)
theorem srt_nodup {l : List Attr} (h : Srt l) : (l.map (·.key)).Nodup := by
  unfold List.Nodup
  rw [List.pairwise_map]
  exact h.imp lt_ne
theorem nodup_len {α : Type} [DecidableEq α] : ∀ {l m : List α}, l.Nodup → (∀ k ∈ l, k ∈ m) → l.length ≤ m.length
  | [], m, _, _ => by simp
  | k :: l, m, hn, hs => by
    have h1 := List.nodup_cons.1 hn
    have hk := hs k (.head _)
    have h2 := nodup_len (m := m.erase k) h1.2 fun j hj => (List.mem_erase_of_ne (fun e => h1.1 (by rw [← e]; exact hj))).2 (hs j (.tail _ hj))
    rw [List.length_erase_of_mem hk] at h2
    have := List.length_pos_of_mem hk
    simp only [List.length_cons]
    omega
/-- A rising row whose keys are another one's is no longer. -/
theorem srt_len {l m : List Attr} (hl : Srt l) (h : ∀ a ∈ l, ∃ b ∈ m, b.key = a.key) : l.length ≤ m.length := by
  have h1 : (l.map (·.key)).length ≤ (m.map (·.key)).length := by
    refine nodup_len (srt_nodup hl) fun k hk => ?_
    obtain ⟨a, ha, rfl⟩ := List.mem_map.1 hk
    obtain ⟨b, hb, e⟩ := h a ha
    exact List.mem_map.2 ⟨b, hb, e⟩
  simpa using h1
theorem flM_len {first : Bool} {a b : List Attr} (ha : Srt a) (hb : Srt b) : (flM first a b).length ≤ b.length :=
  srt_len (flM_srt ha hb) fun c hc => ⟨c, flM_mem c hc, rfl⟩
theorem ivM_len {a b : List Attr} (ha : Srt a) (hb : Srt b) : (ivM a b).length ≤ b.length :=
  srt_len (ivM_srt ha hb) fun c hc => by
    have h := lk_iff_mem (ivM_srt ha hb) hc
    rw [lk_ivM ha hb] at h
    cases hy : lk c.key b with
    | none => rw [hy] at h; cases h
    | some y => exact ⟨y, lk_mem hy, lk_key hy⟩
theorem flM_ch {first : Bool} {a b : List Attr} (ha : chErr a = 0) (hb : chErr b = 0) : chErr (flM first a b) = 0 := by
  obtain ⟨h8, ho, hs⟩ := chErr_iff.1 hb
  exact chErr_iff.2 ⟨Nat.le_trans (flM_len (ch_srt ha) hs) h8, flM_ok ho, flM_srt (ch_srt ha) hs⟩
theorem ivM_ch {a b : List Attr} (ha : chErr a = 0) (hb : chErr b = 0) : chErr (ivM a b) = 0 := by
  obtain ⟨h8, ho, hs⟩ := chErr_iff.1 hb
  exact chErr_iff.2 ⟨Nat.le_trans (ivM_len (ch_srt ha) hs) h8, ivM_ok (chErr_iff.1 ha).2.1 ho, ivM_srt (ch_srt ha) hs⟩
theorem apM_rt {a b : List Attr} (ha : rtErr a = 0) (hb : chErr b = 0) (h8 : (apM a b).length ≤ 8) : rtErr (apM a b) = 0 := by
  obtain ⟨_, ho, hs⟩ := chErr_iff.1 hb
  obtain ⟨_, ho', hs'⟩ := chErr_iff.1 (rtErr_iff.1 ha).1
  exact rtErr_iff.2 ⟨chErr_iff.2 ⟨h8, apM_ok ho' ho, apM_srt hs' hs⟩, apM_full hs' hs (rt_full ha)⟩
theorem cpM_ch {a b : List Attr} (ha : chErr a = 0) (hb : chErr b = 0) (h8 : (cpM a b).length ≤ 8) : chErr (cpM a b) = 0 := by
  obtain ⟨_, ho, hs⟩ := chErr_iff.1 hb
  obtain ⟨_, ho', hs'⟩ := chErr_iff.1 ha
  exact chErr_iff.2 ⟨h8, cpM_ok ho' ho, cpM_srt hs' hs⟩
theorem flL_eq {first : Bool} {a b : List Attr} (ha : chErr a = 0) (hb : chErr b = 0) : flL a b first = flM first a b := by
  have : flErr a b = 0 := if_pos ⟨ha, hb⟩
  unfold flL flM
  rw [if_pos this]
end Go.Proofs.YtaemajcpgmaapaaDoor

namespace Go.Proofs.YtaemajcpgmaapaaDoor

inductive At where
  | ins (c : List UInt8) (a : List Attr)
  | del
  | keep (a : List Attr)
  deriving DecidableEq
inductive Cell where
  | new (c : List UInt8) (a : List Attr)
  | old (i : Nat) (a : List Attr)
  deriving DecidableEq
def Cell.at : Cell → List Attr
  | .new _ a => a
  | .old _ a => a
def upd : Cell → List Attr → Cell
  | .new c a, v => .new c (apM a v)
  | .old i u, v => .old i (cpM u v)
def act : List Cell → List At → List Cell
  | L, [] => L
  | L, .ins c a :: r => .new c a :: act L r
  | [], .del :: r => act [] r
  | _ :: L, .del :: r => act L r
  | [], .keep _ :: r => act [] r
  | z :: L, .keep v :: r => upd z v :: act L r
def opAt (o : Op) : List At :=
  if o.kind = 2 then (chs o.text.data.toList).map (fun c => .ins c o.attrs)
  else if o.kind = 3 then List.replicate o.n.toNat .del
  else List.replicate o.n.toNat (.keep o.attrs)
def ats (l : List Op) : List At := l.flatMap opAt
theorem ats_nil : ats [] = [] := rfl
theorem ats_cons (o : Op) (l : List Op) : ats (o :: l) = opAt o ++ ats l := rfl
theorem ats_append (l m : List Op) : ats (l ++ m) = ats l ++ ats m := by simp [ats]
theorem ats_one (o : Op) : ats [o] = opAt o := by simp [ats]

/-- How many runes a row of steps is about. -/
def need : List At → Nat
  | [] => 0
  | .ins _ _ :: r => need r
  | .del :: r => need r + 1
  | .keep _ :: r => need r + 1
theorem need_append : ∀ x y, need (x ++ y) = need x + need y
  | [], y => by simp [need]
  | .ins _ _ :: x, y => by simp [need, need_append x y]
  | .del :: x, y => by simp [need, need_append x y]; omega
  | .keep _ :: x, y => by simp [need, need_append x y]; omega
theorem need_dels : ∀ n, need (List.replicate n .del) = n
  | 0 => rfl
  | n + 1 => by rw [List.replicate_succ]; simp [need, need_dels n]
theorem need_keeps (u : List Attr) : ∀ n, need (List.replicate n (.keep u)) = n
  | 0 => rfl
  | n + 1 => by rw [List.replicate_succ]; simp [need, need_keeps u n]

/-- Deletes behind the inserts that come before the next keep. -/
def cn : List At → Nat → List At
  | [], g => List.replicate g .del
  | .ins c a :: r, g => .ins c a :: cn r g
  | .del :: r, g => cn r (g + 1)
  | .keep a :: r, g => List.replicate g .del ++ .keep a :: cn r 0
theorem act_dels : ∀ (g : Nat) (L : List Cell) (x : List At), act L (List.replicate g .del ++ x) = act (L.drop g) x
  | 0, L, x => by simp
  | g + 1, [], x => by rw [List.replicate_succ, List.cons_append, act, act_dels g [] x]; simp
  | g + 1, z :: L, x => by rw [List.replicate_succ, List.cons_append, act, act_dels g L x]; rfl
theorem act_cn : ∀ (x : List At) (g : Nat) (L : List Cell), act L (cn x g) = act (L.drop g) x
  | [], g, L => by
    have := act_dels g L []
    rw [List.append_nil] at this
    exact this
  | .ins c a :: r, g, L => by simp only [cn, act]; rw [act_cn r g L]
  | .del :: r, g, L => by
    simp only [cn]
    rw [act_cn r (g + 1) L]
    cases h : L.drop g with
    | nil =>
      have : L.drop (g + 1) = [] := by rw [List.drop_eq_nil_iff] at h ⊢; omega
      rw [this, act]
    | cons z M =>
      have : L.drop (g + 1) = M := by rw [← List.drop_drop, h]; rfl
      rw [this, act]
  | .keep a :: r, g, L => by
    simp only [cn]
    rw [act_dels g L]
    cases L.drop g with
    | nil => simp only [act]; rw [act_cn r 0 []]; simp
    | cons z M => simp only [act]; rw [act_cn r 0 M]; simp

def trimA : List At → List At
  | [] => []
  | x :: l => if x = .keep [] ∧ trimA l = [] then [] else x :: trimA l
theorem trimA_keeps : ∀ n, trimA (List.replicate n (.keep [])) = []
  | 0 => rfl
  | n + 1 => by rw [List.replicate_succ, trimA, if_pos ⟨rfl, trimA_keeps n⟩]
theorem trimA_append : ∀ (x : List At) (n : Nat), trimA (x ++ List.replicate n (.keep [])) = trimA x
  | [], n => by rw [List.nil_append, trimA_keeps]; rfl
  | a :: x, n => by simp only [List.cons_append, trimA]; rw [trimA_append x n]
theorem trimA_split : ∀ x : List At, ∃ n, x = trimA x ++ List.replicate n (.keep [])
  | [] => ⟨0, rfl⟩
  | a :: x => by
    obtain ⟨n, hn⟩ := trimA_split x
    unfold trimA
    split
    · next h =>
      refine ⟨n + 1, ?_⟩
      rw [h.2, List.nil_append] at hn
      rw [h.1, hn, List.nil_append, List.replicate_succ, ← hn]
    · refine ⟨n, ?_⟩
      rw [List.cons_append, ← hn]
def CS (L : List Cell) : Prop := ∀ z ∈ L, Srt z.at
theorem upd_nil {z : Cell} (h : Srt z.at) : upd z [] = z := by
  cases z with
  | new c a => exact congrArg _ (apM_nil a h)
  | old i a => exact congrArg _ (cpM_nil a h)
theorem act_keeps : ∀ (n : Nat) (L : List Cell), CS L → act L (List.replicate n (.keep [])) = L
  | 0, L, _ => by rw [List.replicate_zero, act]
  | n + 1, [], h => by rw [List.replicate_succ, act]; exact act_keeps n [] h
  | n + 1, z :: L, h => by
    rw [List.replicate_succ, act, act_keeps n L fun y hy => h y (.tail _ hy), upd_nil (h z (.head _))]
theorem act_append_keeps : ∀ (x : List At) (n : Nat) (L : List Cell), CS L → act L (x ++ List.replicate n (.keep [])) = act L x
  | [], n, L, h => by rw [List.nil_append, act_keeps n L h, act]
  | .ins c a :: x, n, L, h => by simp only [List.cons_append, act]; rw [act_append_keeps x n L h]
  | .del :: x, n, [], h => by simp only [List.cons_append, act]; rw [act_append_keeps x n [] h]
  | .del :: x, n, z :: L, h => by simp only [List.cons_append, act]; rw [act_append_keeps x n L fun y hy => h y (.tail _ hy)]
  | .keep a :: x, n, [], h => by simp only [List.cons_append, act]; rw [act_append_keeps x n [] h]
  | .keep a :: x, n, z :: L, h => by simp only [List.cons_append, act]; rw [act_append_keeps x n L fun y hy => h y (.tail _ hy)]
theorem act_trimA (x : List At) (L : List Cell) (h : CS L) : act L (trimA x) = act L x := by
  obtain ⟨n, hn⟩ := trimA_split x
  rw [hn, trimA_append, act_append_keeps _ n L h]
  have : trimA (trimA x) = trimA x := by
    have := trimA_append (trimA x) n
    rw [← hn] at this
    exact this.symm
  rw [this]

/-- Cells that tell whence they are. -/
def genFrom (i n : Nat) : List Cell := (List.range' i n).map fun j => .old j []
theorem genFrom_succ (i n : Nat) : genFrom i (n + 1) = .old i [] :: genFrom (i + 1) n := by simp [genFrom, List.range'_succ]
theorem genFrom_drop : ∀ (g i n : Nat), (genFrom i n).drop g = genFrom (i + g) (n - g)
  | 0, i, n => by simp
  | g + 1, i, 0 => by simp [genFrom]
  | g + 1, i, n + 1 => by rw [genFrom_succ, List.drop_succ_cons, genFrom_drop g (i + 1) n]; congr 1 <;> omega
theorem genFrom_cs (i n : Nat) : CS (genFrom i n) := by
  intro z hz
  obtain ⟨j, _, rfl⟩ := List.mem_map.1 hz
  exact .nil
/-- The steps that make such cells of n runes, from place i on. -/
def unG (n : Nat) : Nat → List Cell → List At
  | i, [] => List.replicate (n - i) .del
  | i, .new c a :: r => .ins c a :: unG n i r
  | i, .old j u :: r => List.replicate (j - i) .del ++ .keep u :: unG n (j + 1) r
def KS (x : List At) : Prop := ∀ a, .keep a ∈ x → Srt a
theorem KS.tail {a : At} {x : List At} (h : KS (a :: x)) : KS x := fun b hb => h b (.tail _ hb)
theorem cn_pads : ∀ n, cn (List.replicate n (.keep [])) 0 = List.replicate n (.keep [])
  | 0 => rfl
  | n + 1 => by rw [List.replicate_succ, cn, cn_pads n]; rfl
theorem cn_append_pads : ∀ (x : List At) (g n : Nat), cn (x ++ List.replicate n (.keep [])) g = cn x g ++ List.replicate n (.keep [])
  | [], g, 0 => by simp [cn]
  | [], g, n + 1 => by rw [List.nil_append, List.replicate_succ]; simp only [cn]; rw [cn_pads n]
  | .ins c a :: x, g, n => by simp only [List.cons_append, cn]; rw [cn_append_pads x g n]
  | .del :: x, g, n => by simp only [List.cons_append, cn]; rw [cn_append_pads x (g + 1) n]
  | .keep a :: x, g, n => by simp only [List.cons_append, cn]; rw [cn_append_pads x 0 n]; simp
theorem unG_gen : ∀ (m i : Nat), unG (i + m) i (genFrom i m) = List.replicate m (.keep [])
  | 0, i => by simp [genFrom, unG]
  | m + 1, i => by
    rw [genFrom_succ, unG, Nat.sub_self, show i + (m + 1) = (i + 1) + m by omega, unG_gen m (i + 1), List.replicate_succ]
    rfl
theorem unG_act : ∀ (x : List At) (i g m : Nat), KS x → need x ≤ m → unG (i + g + m) i (act (genFrom (i + g) m) x) = cn (x ++ List.replicate (m - need x) (.keep [])) g
  | [], i, g, m, _, _ => by
    rw [act, need, Nat.sub_zero, List.nil_append]
    cases m with
    | zero => simp [genFrom, unG, cn]
    | succ m =>
      rw [genFrom_succ, unG, show i + g + (m + 1) = (i + g + 1) + m by omega, unG_gen, List.replicate_succ, cn, cn_pads, show i + g - i = g by omega]
  | .ins c a :: x, i, g, m, hk, hn => by
    simp only [act, unG, List.cons_append, cn, need]
    rw [unG_act x i g m hk.tail (by simpa [need] using hn)]
  | .del :: x, i, g, m, hk, hn => by
    simp only [need] at hn ⊢
    obtain ⟨m, rfl⟩ : ∃ k, m = k + 1 := ⟨m - 1, by omega⟩
    rw [genFrom_succ, act, List.cons_append, cn, show i + g + (m + 1) = i + (g + 1) + m by omega, show i + g + 1 = i + (g + 1) by omega, unG_act x i (g + 1) m hk.tail (by omega), show m + 1 - (need x + 1) = m - need x by omega]
  | .keep a :: x, i, g, m, hk, hn => by
    simp only [need] at hn ⊢
    obtain ⟨m, rfl⟩ : ∃ k, m = k + 1 := ⟨m - 1, by omega⟩
    have ih := unG_act x (i + g + 1) 0 m hk.tail (by omega)
    rw [Nat.add_zero] at ih
    rw [genFrom_succ, act, upd, nil_cpM a (hk a (.head _)), unG, show i + g + (m + 1) = i + g + 1 + m by omega, ih, List.cons_append, cn, show i + g - i = g by omega, show m + 1 - (need x + 1) = m - need x by omega]
/-- What a row of steps makes of cells that tell whence they are tells the row, but for the order of deletes and inserts, and for keeps at its end. -/
theorem cn_of_act {x : List At} {n : Nat} (hk : KS x) (hn : need x ≤ n) : trimA (cn x 0) = trimA (unG n 0 (act (genFrom 0 n) x)) := by
  have := unG_act x 0 0 n hk hn
  rw [Nat.zero_add, Nat.zero_add] at this
  rw [this, cn_append_pads, trimA_append]
theorem cn_congr {x y : List At} {n : Nat} (hx : KS x) (hy : KS y) (nx : need x ≤ n) (ny : need y ≤ n) (h : act (genFrom 0 n) x = act (genFrom 0 n) y) : trimA (cn x 0) = trimA (cn y 0) := by
  rw [cn_of_act hx nx, cn_of_act hy ny, h]
end Go.Proofs.YtaemajcpgmaapaaDoor

namespace Go.Proofs.YtaemajcpgmaapaaDoor
open Go.RowKit
open Go.Lib

/-- An operation that may be, of any length. -/
def Gd (o : Op) : Prop :=
  (o.kind = 2 ∧ o.n = 0 ∧ validD o.text.data.toList = true ∧ o.text.data.toList ≠ [] ∧ rtErr o.attrs = 0) ∨
  (o.kind = 3 ∧ 0 < o.n ∧ o.text = ⟨#[]⟩ ∧ o.attrs = []) ∨ (o.kind = 1 ∧ 0 < o.n ∧ o.text = ⟨#[]⟩ ∧ chErr o.attrs = 0)
def Gds (l : List Op) : Prop := ∀ o ∈ l, Gd o
theorem Gds.tail {o : Op} {l : List Op} (h : Gds (o :: l)) : Gds l := fun x hx => h x (.tail _ hx)
theorem Gds.append {l m : List Op} (h : Gds l) (k : Gds m) : Gds (l ++ m) := fun o ho => (List.mem_append.1 ho).elim (h o) (k o)
theorem Gds.left {l m : List Op} (h : Gds (l ++ m)) : Gds l := fun o ho => h o (List.mem_append_left _ ho)
theorem Gds.right {l m : List Op} (h : Gds (l ++ m)) : Gds m := fun o ho => h o (List.mem_append_right _ ho)
theorem opAt2 {o : Op} (h : o.kind = 2) : opAt o = (chs o.text.data.toList).map (fun c => .ins c o.attrs) := by unfold opAt; rw [if_pos h]
theorem opAt3 {o : Op} (h : o.kind = 3) : opAt o = List.replicate o.n.toNat .del := by unfold opAt; rw [if_neg (by omega), if_pos h]
theorem opAt1 {o : Op} (h : o.kind = 1) : opAt o = List.replicate o.n.toNat (.keep o.attrs) := by unfold opAt; rw [if_neg (by omega), if_neg (by omega)]
theorem need_ins (a : List Attr) : ∀ l : List (List UInt8), need (l.map fun c => .ins c a) = 0
  | [] => rfl
  | c :: l => by simp [need, need_ins a l]
theorem Gd.need {o : Op} (h : Gd o) : (need (opAt o) : Int) = o.n := by
  rcases h with ⟨hk, hn, _⟩ | ⟨hk, hn, _⟩ | ⟨hk, hn, _⟩
  · rw [opAt2 hk, need_ins, hn]; rfl
  · rw [opAt3 hk, need_dels]; omega
  · rw [opAt1 hk, need_keeps]; omega
theorem Gd.ne {o : Op} (h : Gd o) : opAt o ≠ [] := by
  rcases h with ⟨hk, _, _, ht, _⟩ | ⟨hk, hn, _⟩ | ⟨hk, hn, _⟩
  · rw [opAt2 hk]; intro e; exact ht (chs_eq_nil.1 (List.map_eq_nil_iff.1 e))
  · rw [opAt3 hk]; intro e; rw [List.replicate_eq_nil_iff] at e; omega
  · rw [opAt1 hk]; intro e; rw [List.replicate_eq_nil_iff] at e; omega
theorem opLike_iff {a b : Op} : opLike a b = true ↔ a.kind = b.kind ∧ a.attrs = b.attrs := by simp [opLike, attrsEq]

/-- No operation is alike with the next. -/
def Mg : List Op → Prop
  | [] => True
  | [_] => True
  | a :: b :: l => opLike a b = false ∧ Mg (b :: l)
theorem Mg.tail {a : Op} {l : List Op} (h : Mg (a :: l)) : Mg l := by
  cases l with
  | nil => trivial
  | cons b l => exact h.2
theorem mg_snoc : ∀ {l : List Op} {x o : Op}, Mg (l ++ [x]) → opLike x o = false → Mg (l ++ [x] ++ [o])
  | [], _, _, _, h => ⟨h, trivial⟩
  | [_], _, _, h, k => ⟨h.1, mg_snoc (l := []) h.2 k⟩
  | _ :: b :: l, _, _, h, k => ⟨h.1, mg_snoc (l := b :: l) h.2 k⟩
theorem mg_left : ∀ {l : List Op} {x : Op}, Mg (l ++ [x]) → Mg l
  | [], _, _ => trivial
  | [_], _, _ => trivial
  | _ :: b :: l, _, h => ⟨h.1, mg_left (l := b :: l) h.2⟩
theorem mg_last : ∀ {l : List Op} {x o : Op}, Mg (l ++ [x] ++ [o]) → opLike x o = false
  | [], _, _, h => h.1
  | [_], _, _, h => h.2.1
  | _ :: b :: l, _, _, h => mg_last (l := b :: l) h.2
theorem mg_swap : ∀ {l : List Op} {x y : Op}, Mg (l ++ [x]) → x.kind = y.kind → x.attrs = y.attrs → Mg (l ++ [y])
  | [], _, _, _, _, _ => trivial
  | [a], x, y, h, hk, ha => ⟨by have := h.1; unfold opLike at this ⊢; rw [← hk, ← ha]; exact this, trivial⟩
  | a :: b :: l, x, y, h, hk, ha => ⟨h.1, mg_swap (l := b :: l) h.2 hk ha⟩

theorem w64 {x : Int} (h0 : 0 ≤ x) (h : x ≤ 4611686018427387904) : wrap64 x = x := by
  unfold wrap64; omega
theorem empty_append (s : ByteArray) : (⟨#[]⟩ : ByteArray) ++ s = s := by
  apply toList_inj
  rw [ByteArray.toList_eq, ByteArray.toList_eq]
  simp
theorem data_append (s t : ByteArray) : (s ++ t).data.toList = s.data.toList ++ t.data.toList := by simp
/-- Two that are alike, as one. -/
theorem opAt_join {x o : Op} (hx : Gd x) (ho : Gd o) (hl : opLike x o = true) (hb : x.n + o.n ≤ 4611686018427387904) :
    opAt ⟨x.kind, wrap64 (x.n + o.n), x.text ++ o.text, x.attrs⟩ = opAt x ++ opAt o ∧ Gd ⟨x.kind, wrap64 (x.n + o.n), x.text ++ o.text, x.attrs⟩ := by
  obtain ⟨hk, ha⟩ := opLike_iff.1 hl
  rcases hx with ⟨k1, n1, v1, t1, r1⟩ | ⟨k1, n1, t1, a1⟩ | ⟨k1, n1, t1, a1⟩
  · rcases ho with ⟨k2, n2, v2, t2, r2⟩ | ⟨k2, _⟩ | ⟨k2, _⟩
    · rw [opAt2 (o := ⟨x.kind, wrap64 (x.n + o.n), x.text ++ o.text, x.attrs⟩) k1, opAt2 k1, opAt2 k2, n1, n2]
      simp only [data_append]
      rw [chs_append _ v1, List.map_append, ha]
      refine ⟨rfl, .inl ⟨k1, (w64 (x := 0 + 0) (by omega) (by omega)), ?_, ?_, by simp only; rw [← ha]; exact r1⟩⟩
      · simp only [data_append]; rw [valid_append _ v1]; exact v2
      · simp only [data_append]; simp [t1]
    · omega
    · omega
  · rcases ho with ⟨k2, _⟩ | ⟨k2, n2, t2, a2⟩ | ⟨k2, _⟩
    · omega
    · rw [opAt3 (o := ⟨x.kind, wrap64 (x.n + o.n), x.text ++ o.text, x.attrs⟩) k1, opAt3 k1, opAt3 k2, w64 (by omega) hb]
      refine ⟨?_, .inr (.inl ⟨k1, by simp only; omega, by simp only; rw [t1, t2]; rfl, a1⟩)⟩
      simp only
      rw [List.replicate_append_replicate]
      congr 1
      omega
    · omega
  · rcases ho with ⟨k2, _⟩ | ⟨k2, _⟩ | ⟨k2, n2, t2, a2⟩
    · omega
    · omega
    · rw [opAt1 (o := ⟨x.kind, wrap64 (x.n + o.n), x.text ++ o.text, x.attrs⟩) k1, opAt1 k1, opAt1 k2, w64 (by omega) hb]
      refine ⟨?_, .inr (.inr ⟨k1, by simp only; omega, by simp only; rw [t1, t2]; rfl, a1⟩)⟩
      simp only
      rw [ha, List.replicate_append_replicate]
      congr 1
      omega
theorem putL_law {l : List Op} {o : Op} (hl : Gds l) (hm : Mg l) (ho : Gd o) (hb : need (ats l) + need (opAt o) ≤ 4611686018427387904) : Gds (putL l o) ∧ Mg (putL l o) ∧ ats (putL l o) = ats l ++ opAt o := by
  unfold putL
  rcases List.eq_nil_or_concat l with rfl | ⟨l0, x, rfl⟩
  · exact ⟨fun y hy => by simp at hy; subst hy; exact ho, trivial, by simp [ats]⟩
  · rw [List.concat_eq_append] at *
    have e : (l0 ++ [x]).getLast? = some x := by simp
    rw [e]
    have hx : Gd x := hl x (by simp)
    dsimp only
    split
    · next hlk =>
      rw [ats_append, ats_one, need_append] at hb
      have h1 := hx.need
      have h2 := ho.need
      have hj := opAt_join hx ho hlk (by omega)
      rw [List.dropLast_concat]
      refine ⟨hl.left.append fun y hy => by simp at hy; subst hy; exact hj.2, mg_swap hm rfl rfl, ?_⟩
      rw [ats_append, ats_one, hj.1, ats_append, ats_one, List.append_assoc]
    · next hlk =>
      exact ⟨hl.append fun y hy => by simp at hy; subst hy; exact ho, mg_snoc hm (by simpa using hlk), by rw [ats_append, ats_one]⟩
theorem flushL_law {l : List Op} {g : Int} (hl : Gds l) (hm : Mg l) (hg : 0 ≤ g) (hb : (need (ats l) : Int) + g ≤ 4611686018427387904) :
    Gds (flushL (l, g)).1 ∧ Mg (flushL (l, g)).1 ∧ ats (flushL (l, g)).1 = ats l ++ List.replicate g.toNat .del ∧ (flushL (l, g)).2 = 0 := by
  unfold flushL
  by_cases h : 0 < g
  · rw [if_pos h]
    have ho : Gd ⟨3, g, ⟨#[]⟩, []⟩ := .inr (.inl ⟨rfl, h, rfl, rfl⟩)
    have hn : (need (opAt ⟨3, g, ⟨#[]⟩, []⟩) : Int) = g := ho.need
    obtain ⟨h1, h2, h3⟩ := putL_law hl hm ho (by omega)
    refine ⟨h1, h2, ?_, rfl⟩
    dsimp only
    rw [h3, opAt3 rfl]
  · rw [if_neg h]
    obtain rfl : g = 0 := by omega
    exact ⟨hl, hm, by simp, rfl⟩
theorem cn_ins (a : List Attr) (r : List At) (g : Nat) : ∀ cs : List (List UInt8), cn (cs.map (fun c => .ins c a) ++ r) g = cs.map (fun c => .ins c a) ++ cn r g
  | [] => rfl
  | c :: cs => by simp only [List.map_cons, List.cons_append, cn]; rw [cn_ins a r g cs]
theorem cn_dels (r : List At) : ∀ n g, cn (List.replicate n .del ++ r) g = cn r (g + n)
  | 0, g => rfl
  | n + 1, g => by rw [List.replicate_succ, List.cons_append, cn, cn_dels r n (g + 1)]; congr 1; omega
theorem cn_keeps0 (a : List Attr) (r : List At) : ∀ n, cn (List.replicate n (.keep a) ++ r) 0 = List.replicate n (.keep a) ++ cn r 0
  | 0 => rfl
  | n + 1 => by rw [List.replicate_succ, List.cons_append, cn, cn_keeps0 a r n]; rfl
theorem cn_keeps (a : List Attr) (r : List At) (n g : Nat) (hn : 0 < n) : cn (List.replicate n (.keep a) ++ r) g = List.replicate g .del ++ List.replicate n (.keep a) ++ cn r 0 := by
  obtain ⟨n, rfl⟩ : ∃ m, n = m + 1 := ⟨n - 1, by omega⟩
  rw [List.replicate_succ, List.cons_append, cn, cn_keeps0 a r n]
  simp
theorem fold_law : ∀ (ops l : List Op) (g : Int), Gds ops → Gds l → Mg l → 0 ≤ g → g + need (ats l) + need (ats ops) ≤ 4611686018427387904 →
    Gds (ops.foldl nStep (l, g)).1 ∧ Mg (ops.foldl nStep (l, g)).1 ∧ 0 ≤ (ops.foldl nStep (l, g)).2 ∧ (ops.foldl nStep (l, g)).2 + need (ats (ops.foldl nStep (l, g)).1) ≤ 4611686018427387904 ∧
      ats (ops.foldl nStep (l, g)).1 ++ List.replicate (ops.foldl nStep (l, g)).2.toNat .del = ats l ++ cn (ats ops) g.toNat
  | [], l, g, _, hl, hm, hg, hb => ⟨hl, hm, hg, by simpa [ats, need] using hb, rfl⟩
  | o :: ops, l, g, ho, hl, hm, hg, hb => by
    have hoo := ho o (.head _)
    have hn := hoo.need
    rw [ats_cons, need_append] at hb
    simp only [List.foldl_cons]
    rcases hoo with ⟨k1, n1, v1, t1, r1⟩ | ⟨k1, n1, t1, a1⟩ | ⟨k1, n1, t1, a1⟩
    · obtain ⟨p1, p2, p3⟩ := putL_law hl hm (.inl ⟨k1, n1, v1, t1, r1⟩) (by omega)
      have e : nStep (l, g) o = (putL l o, g) := by unfold nStep; rw [if_neg (by omega), if_pos k1]
      rw [e]
      have := fold_law ops (putL l o) g ho.tail p1 p2 hg (by rw [p3, need_append]; omega)
      refine ⟨this.1, this.2.1, this.2.2.1, this.2.2.2.1, ?_⟩
      rw [this.2.2.2.2, p3, ats_cons, opAt2 k1, cn_ins, List.append_assoc]
    · have e : nStep (l, g) o = (l, g + o.n) := by
        unfold nStep; rw [if_neg (by omega), if_neg (by omega), if_pos k1]
        dsimp only
        rw [w64 (by omega) (by omega)]
      rw [e]
      have := fold_law ops l (g + o.n) ho.tail hl hm (by omega) (by omega)
      refine ⟨this.1, this.2.1, this.2.2.1, this.2.2.2.1, ?_⟩
      rw [this.2.2.2.2, ats_cons, opAt3 k1, cn_dels, show (g + o.n).toNat = g.toNat + o.n.toNat by omega]
    · obtain ⟨f1, f2, f3, f4⟩ := flushL_law hl hm hg (by omega)
      have hfn : (need (ats (flushL (l, g)).1) : Int) = need (ats l) + g := by rw [f3, need_append, need_dels]; omega
      obtain ⟨p1, p2, p3⟩ := putL_law f1 f2 (.inr (.inr ⟨k1, n1, t1, a1⟩)) (by omega)
      have e : nStep (l, g) o = (putL (flushL (l, g)).1 o, 0) := by unfold nStep; rw [if_pos k1, f4]
      rw [e]
      have := fold_law ops (putL (flushL (l, g)).1 o) 0 ho.tail p1 p2 (by omega) (by rw [p3, need_append]; omega)
      refine ⟨this.1, this.2.1, this.2.2.1, this.2.2.2.1, ?_⟩
      rw [this.2.2.2.2, p3, f3, ats_cons, opAt1 k1, cn_keeps _ _ _ _ (by omega)]
      simp
theorem normS_law {ops : List Op} (ho : Gds ops) (hb : need (ats ops) ≤ 4611686018427387904) : Gds (normS ops).1 ∧ Mg (normS ops).1 ∧ ats (normS ops).1 = cn (ats ops) 0 := by
  obtain ⟨h1, h2, h3, h4, h5⟩ := fold_law ops [] 0 ho (fun _ h => by cases h) trivial (by omega) (by rw [ats_nil, need]; omega)
  unfold normS
  generalize ops.foldl nStep ([], 0) = s at *
  obtain ⟨l, g⟩ := s
  obtain ⟨f1, f2, f3, f4⟩ := flushL_law h1 h2 h3 (by dsimp only at h4 ⊢; omega)
  refine ⟨f1, f2, ?_⟩
  rw [f3]
  exact h5
theorem trimA_self : ∀ {x : List At}, x.getLast? ≠ some (.keep []) → trimA x = x
  | [], _ => rfl
  | [a], h => by
    unfold trimA
    rw [if_neg (by rintro ⟨e, _⟩; subst e; exact h rfl)]
    rfl
  | a :: b :: x, h => by
    have ih := trimA_self (x := b :: x) (by simpa using h)
    rw [trimA, ih, if_neg (by simp)]
theorem opAt_last {o : Op} (h : Gd o) (hn : ¬ (o.kind = 1 ∧ o.attrs = [])) (x : List At) : (x ++ opAt o).getLast? ≠ some (.keep []) := by
  rw [List.getLast?_append]
  have hne := h.ne
  intro e
  have hlast : (opAt o).getLast? = some (.keep []) := by
    cases hh : (opAt o).getLast? with
    | none => rw [List.getLast?_eq_none_iff] at hh; exact absurd hh hne
    | some y => rw [hh] at e; simpa using e
  have hm : At.keep [] ∈ opAt o := List.mem_of_getLast? hlast
  rcases h with ⟨hk, _⟩ | ⟨hk, _⟩ | ⟨hk, _⟩
  · rw [opAt2 hk] at hm; simp at hm
  · rw [opAt3 hk] at hm; simp at hm
  · rw [opAt1 hk] at hm
    simp at hm
    exact hn ⟨hk, hm.2⟩
theorem trimL_law {l : List Op} (hl : Gds l) (hm : Mg l) : Gds (trimL l) ∧ Mg (trimL l) ∧ ats (trimL l) = trimA (ats l) := by
  unfold trimL
  rcases List.eq_nil_or_concat l with rfl | ⟨l0, x, rfl⟩
  · exact ⟨hl, hm, rfl⟩
  · rw [List.concat_eq_append] at *
    have e : (l0 ++ [x]).getLast? = some x := by simp
    rw [e]
    have hx : Gd x := hl x (by simp)
    dsimp only
    split
    · next hk =>
      rw [List.dropLast_concat]
      refine ⟨hl.left, mg_left hm, ?_⟩
      rw [ats_append, ats_one, opAt1 hk.1, hk.2, trimA_append]
      rcases List.eq_nil_or_concat l0 with rfl | ⟨l1, y, rfl⟩
      · rfl
      · rw [List.concat_eq_append] at *
        have hy : Gd y := hl y (by simp)
        have hlk := mg_last hm
        rw [ats_append, ats_one, trimA_self (opAt_last hy (fun h => ?_) _)]
        have : opLike y x = true := opLike_iff.2 ⟨h.1.trans hk.1.symm, h.2.trans hk.2.symm⟩
        rw [this] at hlk
        cases hlk
    · next hk => exact ⟨hl, hm, by rw [ats_append, ats_one, trimA_self (opAt_last hx hk _)]⟩

/-! ### back from steps to operations -/
def atOp : At → Op
  | .ins c a => ⟨2, 0, ⟨c.toArray⟩, a⟩
  | .del => ⟨3, 1, ⟨#[]⟩, []⟩
  | .keep a => ⟨1, 1, ⟨#[]⟩, a⟩
def consO (x : Op) : List Op → List Op
  | [] => [x]
  | o :: l => if opLike x o = true then ⟨x.kind, x.n + o.n, x.text ++ o.text, x.attrs⟩ :: l else x :: o :: l
def grp (x : List At) : List Op := x.foldr (fun a l => consO (atOp a) l) []
def NoLike (o : Op) : List Op → Prop
  | [] => True
  | b :: _ => opLike o b = false
theorem mg_nolike {o : Op} {l : List Op} (h : Mg (o :: l)) : NoLike o l := by
  cases l with
  | nil => trivial
  | cons b l => exact h.1
theorem consO_no {o : Op} {l : List Op} (h : NoLike o l) : consO o l = o :: l := by
  cases l with
  | nil => rfl
  | cons b l =>
    show (if opLike o b = true then _ else _) = _
    rw [if_neg (by rw [show opLike o b = false from h]; simp)]
theorem consO_yes {x o : Op} {l : List Op} (h : opLike x o = true) : consO x (o :: l) = ⟨x.kind, x.n + o.n, x.text ++ o.text, x.attrs⟩ :: l := if_pos h
theorem NoLike.congr {o p : Op} {l : List Op} (h : NoLike o l) (hk : p.kind = o.kind) (ha : p.attrs = o.attrs) : NoLike p l := by
  cases l with
  | nil => trivial
  | cons b l => show opLike p b = false; unfold opLike; rw [hk, ha]; exact h
theorem grp_keeps (a : List Attr) (l : List Op) (h : NoLike ⟨1, 1, ⟨#[]⟩, a⟩ l) : ∀ n : Nat, (List.replicate (n + 1) (At.keep a)).foldr (fun a l => consO (atOp a) l) l = ⟨1, n + 1, ⟨#[]⟩, a⟩ :: l
  | 0 => by simpa [atOp] using consO_no h
  | n + 1 => by
    rw [List.replicate_succ, List.foldr_cons, grp_keeps a l h n]
    refine (consO_yes (by exact opLike_iff.2 ⟨rfl, rfl⟩)).trans ?_
    show (⟨_, _, _, _⟩ : Op) :: l = _
    congr 2
    simp only [atOp]; omega
theorem grp_dels (l : List Op) (h : NoLike ⟨3, 1, ⟨#[]⟩, []⟩ l) : ∀ n : Nat, (List.replicate (n + 1) At.del).foldr (fun a l => consO (atOp a) l) l = ⟨3, n + 1, ⟨#[]⟩, []⟩ :: l
  | 0 => by simpa [atOp] using consO_no h
  | n + 1 => by
    rw [List.replicate_succ, List.foldr_cons, grp_dels l h n]
    refine (consO_yes (by exact opLike_iff.2 ⟨rfl, rfl⟩)).trans ?_
    show (⟨_, _, _, _⟩ : Op) :: l = _
    congr 2
    simp only [atOp]; omega
theorem grp_ins (a : List Attr) (l : List Op) : ∀ (cs : List (List UInt8)) (c : List UInt8), NoLike ⟨2, 0, ⟨#[]⟩, a⟩ l →
    ((c :: cs).map (fun c => At.ins c a)).foldr (fun a l => consO (atOp a) l) l = ⟨2, 0, ⟨(c :: cs).flatten.toArray⟩, a⟩ :: l
  | [], c, h => by
    simp only [List.map_cons, List.map_nil, List.foldr_cons, List.foldr_nil]
    refine (consO_no (o := ⟨2, 0, ⟨c.toArray⟩, a⟩) (h.congr rfl rfl)).trans ?_
    simp
  | d :: cs, c, h => by
    rw [List.map_cons, List.foldr_cons, grp_ins a l cs d h]
    refine (consO_yes (by exact opLike_iff.2 ⟨rfl, rfl⟩)).trans ?_
    show (⟨_, _, _, _⟩ : Op) :: l = _
    congr 2
theorem grp_ats : ∀ {l : List Op}, Gds l → Mg l → grp (ats l) = l
  | [], _, _ => rfl
  | o :: l, hg, hm => by
    have ih := grp_ats hg.tail hm.tail
    unfold grp at ih ⊢
    rw [ats_cons, List.foldr_append, ih]
    have hno := mg_nolike hm
    rcases hg o (.head _) with ⟨hk, hn, hv, ht, hr⟩ | ⟨hk, hn, ht, ha⟩ | ⟨hk, hn, ht, ha⟩
    · rw [opAt2 hk]
      cases hc : chs o.text.data.toList with
      | nil => exact absurd (chs_eq_nil.1 hc) ht
      | cons c cs =>
        rw [grp_ins o.attrs l cs c (hno.congr hk.symm rfl), ← hc, chs_flatten]
        obtain ⟨k, n, t, a⟩ := o
        simp only at hk hn
        subst hk hn
        rfl
    · rw [opAt3 hk]
      obtain ⟨k, n, t, a⟩ := o
      simp only at hk hn ht ha
      subst hk ht ha
      obtain ⟨m, rfl⟩ : ∃ m : Nat, n = m + 1 := ⟨(n - 1).toNat, by omega⟩
      have := grp_dels l (hno.congr rfl rfl) m
      simpa using this
    · rw [opAt1 hk]
      obtain ⟨k, n, t, a⟩ := o
      simp only at hk hn ht ha
      subst hk ht
      obtain ⟨m, rfl⟩ : ∃ m : Nat, n = m + 1 := ⟨(n - 1).toNat, by omega⟩
      have := grp_keeps a l (hno.congr rfl rfl) m
      simpa using this
/-- The normal form is told by the steps. -/
theorem normL_law {ops : List Op} (ho : Gds ops) (hb : need (ats ops) ≤ 4611686018427387904) :
    Gds (normL ops) ∧ Mg (normL ops) ∧ ats (normL ops) = trimA (cn (ats ops) 0) ∧ normL ops = grp (trimA (cn (ats ops) 0)) := by
  obtain ⟨h1, h2, h3⟩ := normS_law ho hb
  obtain ⟨t1, t2, t3⟩ := trimL_law h1 h2
  have e : ats (normL ops) = trimA (cn (ats ops) 0) := by unfold normL; rw [t3, h3]
  exact ⟨t1, t2, e, by rw [← e]; exact (grp_ats t1 t2).symm⟩
theorem ks_opAt {o : Op} (h : Gd o) : KS (opAt o) := by
  intro a ha
  rcases h with ⟨hk, _⟩ | ⟨hk, _⟩ | ⟨hk, _, _, hc⟩
  · rw [opAt2 hk] at ha; simp at ha
  · rw [opAt3 hk] at ha; simp at ha
  · rw [opAt1 hk] at ha
    simp at ha
    rw [ha.2]
    exact ch_srt hc
theorem ks_ats {l : List Op} (h : Gds l) : KS (ats l) := by
  intro a ha
  obtain ⟨o, ho, ha⟩ := List.mem_flatMap.1 ha
  exact ks_opAt (h o ho) a ha
theorem normL_congr {A B : List Op} {n : Nat} (hA : Gds A) (hB : Gds B) (nA : need (ats A) ≤ n) (nB : need (ats B) ≤ n) (hn : n ≤ 4611686018427387904) (h : act (genFrom 0 n) (ats A) = act (genFrom 0 n) (ats B)) : normL A = normL B := by
  rw [(normL_law hA (by omega)).2.2.2, (normL_law hB (by omega)).2.2.2, cn_congr (ks_ats hA) (ks_ats hB) nA nB h]
theorem act_normL {A : List Op} (hA : Gds A) (hb : need (ats A) ≤ 4611686018427387904) (L : List Cell) (hL : CS L) : act L (ats (normL A)) = act L (ats A) := by
  rw [(normL_law hA hb).2.2.1, act_trimA _ _ hL, act_cn]
  simp
theorem need_trimA : ∀ x, need (trimA x) ≤ need x
  | [] => Nat.le_refl _
  | a :: x => by
    have ih := need_trimA x
    unfold trimA
    split
    · simp [need]
    · cases a <;> simp [need] <;> omega
theorem need_cn : ∀ (x : List At) (g : Nat), need (cn x g) = need x + g
  | [], g => by simp [cn, need, need_dels]
  | .ins c a :: r, g => by simp [cn, need, need_cn r g]
  | .del :: r, g => by simp [cn, need, need_cn r (g + 1)]; omega
  | .keep a :: r, g => by simp [cn, need, need_cn r 0, need_append, need_dels]; omega
theorem need_normL {A : List Op} (hA : Gds A) (hb : need (ats A) ≤ 4611686018427387904) : need (ats (normL A)) ≤ need (ats A) := by
  rw [(normL_law hA hb).2.2.1]
  have := need_trimA (cn (ats A) 0)
  rw [need_cn] at this
  omega
theorem normL_idem {A : List Op} (hA : Gds A) (hb : need (ats A) ≤ 4611686018427387904) : normL (normL A) = normL A :=
  normL_congr (n := need (ats A)) (normL_law hA hb).1 hA (need_normL hA hb) (Nat.le_refl _) hb (act_normL hA hb _ (genFrom_cs _ _))
end Go.Proofs.YtaemajcpgmaapaaDoor
