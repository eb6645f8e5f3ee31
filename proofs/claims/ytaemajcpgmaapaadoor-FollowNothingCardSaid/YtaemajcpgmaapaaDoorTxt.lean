/- Texts by runes: what the decoder takes, one piece behind another. Plain Lean. -/
import Derived.Lib.ValidLaws
import Derived.Lib.RuneCountTail
namespace Go.Proofs.YtaemajcpgmaapaaDoor
open Go.Lib

theorem decodeN_ext (n n' b0 b1 b2 b3 c1 c2 c3 : Nat) (h : n ≤ n') (h1 : 1 < n → c1 = b1) (h2 : 2 < n → c2 = b2) (h3 : 3 < n → c3 = b3)
    (hv : ¬ ((decodeN n b0 b1 b2 b3).1 = 65533 ∧ (decodeN n b0 b1 b2 b3).2 = 1)) : decodeN n' b0 c1 c2 c3 = decodeN n b0 b1 b2 b3 := by
  unfold decodeN at hv ⊢
  by_cases a : b0 < 128
  · rw [if_pos a, if_pos a]
  · rw [if_neg a] at hv
    rw [if_neg a, if_neg a]
    by_cases p : b0 / 32 = 6 ∧ (1 < n ∧ b1 / 64 = 2)
    · obtain rfl := h1 p.2.1
      rw [if_pos p, if_pos ⟨p.1, by omega, p.2.2⟩]
    · rw [if_neg p] at hv
      by_cases q : b0 / 16 = 14 ∧ (1 < n ∧ b1 / 64 = 2) ∧ (2 < n ∧ b2 / 64 = 2)
      · obtain rfl := h1 q.2.1.1
        obtain rfl := h2 q.2.2.1
        rw [if_neg p, if_neg (fun h => by omega), if_pos q, if_pos ⟨q.1, ⟨by omega, q.2.1.2⟩, by omega, q.2.2.2⟩]
      · rw [if_neg q] at hv
        by_cases r : b0 / 8 = 30 ∧ (1 < n ∧ b1 / 64 = 2) ∧ (2 < n ∧ b2 / 64 = 2) ∧ (3 < n ∧ b3 / 64 = 2)
        · obtain rfl := h1 r.2.1.1
          obtain rfl := h2 r.2.2.1.1
          obtain rfl := h3 r.2.2.2.1
          rw [if_neg p, if_neg (fun h => by omega), if_neg q, if_neg (fun h => by omega), if_pos r, if_pos ⟨r.1, ⟨by omega, r.2.1.2⟩, ⟨by omega, r.2.2.1.2⟩, by omega, r.2.2.2.2⟩]
        · rw [if_neg r] at hv
          exact absurd ⟨rfl, rfl⟩ hv
theorem decodeL_append (l m : List UInt8) (hne : l ≠ []) (hv : ¬ ((decodeL l).1 = 65533 ∧ (decodeL l).2 = 1)) : decodeL (l ++ m) = decodeL l := by
  have hl : 0 < l.length := List.length_pos_iff.2 hne
  rw [decodeL_N] at hv
  rw [decodeL_N, decodeL_N]
  have e : ∀ k, k < l.length → (l ++ m).getD k 0 = l.getD k 0 := fun k hk => by simp [List.getD, List.getElem?_append_left hk]
  rw [e 0 hl]
  exact decodeN_ext _ _ _ _ _ _ _ _ _ (by simp) (fun h => by rw [e 1 h]) (fun h => by rw [e 2 h]) (fun h => by rw [e 3 h]) hv

theorem decN_le (n b0 b1 b2 b3 : Nat) (hn : 1 ≤ n) : (decodeN n b0 b1 b2 b3).2 ≤ n := by
  unfold decodeN
  repeat' split
  all_goals (simp only; omega)

/-- The pieces that the decoder takes. -/
def chsGo : Nat → List UInt8 → List (List UInt8)
  | 0, _ => []
  | n + 1, l => if l = [] then [] else l.take (decodeL l).2 :: chsGo n (l.drop (decodeL l).2)
def chs (l : List UInt8) : List (List UInt8) := chsGo l.length l
theorem chsGo_fuel : ∀ (n m : Nat) (l : List UInt8), l.length ≤ n → l.length ≤ m → chsGo n l = chsGo m l
  | 0, m, l, hn, _ => by
    obtain rfl : l = [] := List.eq_nil_of_length_eq_zero (by omega)
    cases m <;> simp [chsGo]
  | n + 1, 0, l, _, hm => by
    obtain rfl : l = [] := List.eq_nil_of_length_eq_zero (by omega)
    simp [chsGo]
  | n + 1, m + 1, l, hn, hm => by
    unfold chsGo
    by_cases hne : l = []
    · simp [hne]
    · have hw := decodeL_width l
      have hl : 0 < l.length := List.length_pos_iff.2 hne
      rw [if_neg hne, if_neg hne, chsGo_fuel n m (l.drop (decodeL l).2) (by rw [List.length_drop]; omega) (by rw [List.length_drop]; omega)]
theorem chs_nil : chs [] = [] := rfl
theorem chs_step (l : List UInt8) (hne : l ≠ []) : chs l = l.take (decodeL l).2 :: chs (l.drop (decodeL l).2) := by
  have hl : 0 < l.length := List.length_pos_iff.2 hne
  have hw := decodeL_width l
  obtain ⟨n, hn⟩ : ∃ n, l.length = n + 1 := ⟨l.length - 1, by omega⟩
  unfold chs
  rw [hn]
  show (if l = [] then [] else _) = _
  rw [if_neg hne, chsGo_fuel n (l.drop (decodeL l).2).length _ (by rw [List.length_drop]; omega) (Nat.le_refl _)]
theorem chs_flat : ∀ (n : Nat) (l : List UInt8), l.length ≤ n → (chs l).flatten = l
  | 0, l, h => by
    obtain rfl : l = [] := List.eq_nil_of_length_eq_zero (by omega)
    rfl
  | n + 1, l, h => by
    by_cases hne : l = []
    · subst hne; rfl
    · have hw := decodeL_width l
      have hl : 0 < l.length := List.length_pos_iff.2 hne
      rw [chs_step l hne, List.flatten_cons, chs_flat n (l.drop (decodeL l).2) (by rw [List.length_drop]; omega), List.take_append_drop]
theorem chs_flatten (l : List UInt8) : (chs l).flatten = l := chs_flat _ l (Nat.le_refl _)
theorem chs_eq_nil {l : List UInt8} : chs l = [] ↔ l = [] := by
  constructor
  · intro h
    have := chs_flatten l
    rw [h] at this
    exact this.symm
  · rintro rfl; rfl

/-- Behind a text what follows is taken for itself. -/
theorem valid_app : ∀ (n : Nat) (l m : List UInt8), l.length ≤ n → validD l = true → validD (l ++ m) = validD m ∧ chs (l ++ m) = chs l ++ chs m
  | 0, l, m, h, _ => by
    obtain rfl : l = [] := List.eq_nil_of_length_eq_zero (by omega)
    exact ⟨rfl, rfl⟩
  | n + 1, l, m, h, hv => by
    by_cases hne : l = []
    · subst hne; exact ⟨rfl, rfl⟩
    · have hw := decodeL_width l
      have hl : 0 < l.length := List.length_pos_iff.2 hne
      rw [validD_step l hne] at hv
      split at hv
      · cases hv
      · next hd =>
        have hle : (decodeL l).2 ≤ l.length := by
          rw [decodeL_N]; exact decN_le _ _ _ _ _ hl
        have ha := decodeL_append l m hne hd
        have ih := valid_app n (l.drop (decodeL l).2) m (by rw [List.length_drop]; omega) hv
        have hne2 : l ++ m ≠ [] := by simp [hne]
        rw [validD_step _ hne2, chs_step _ hne2, chs_step l hne, ha, if_neg hd, List.drop_append_of_le_length hle, List.take_append_of_le_length hle, ih.1, ih.2]
        exact ⟨rfl, rfl⟩
theorem valid_append {l : List UInt8} (m : List UInt8) (h : validD l = true) : validD (l ++ m) = validD m := (valid_app _ l m (Nat.le_refl _) h).1
theorem chs_append {l : List UInt8} (m : List UInt8) (h : validD l = true) : chs (l ++ m) = chs l ++ chs m := (valid_app _ l m (Nat.le_refl _) h).2

theorem count_from (s : ByteArray) : ∀ fuel pos, s.size ≤ pos + fuel → runeCountFrom s fuel pos = (chs (s.data.toList.drop pos)).length
  | 0, pos, h => by
    have : s.data.toList.drop pos = [] := List.drop_eq_nil_of_le (by rw [← size_eq]; omega)
    rw [this]; rfl
  | f + 1, pos, h => by
    unfold runeCountFrom
    by_cases hp : pos < s.size
    · rw [if_pos hp]
      have hne : s.data.toList.drop pos ≠ [] := by
        intro h0
        have := congrArg List.length h0
        rw [List.length_drop, ← size_eq] at this
        simp at this
        omega
      have hw := decode_width_pos s pos hp
      rw [chs_step _ hne, decodeL_drop, List.length_cons, List.drop_drop, count_from s f (pos + (Utf8.decode s pos).2) (by omega)]
      omega
    · rw [if_neg hp]
      have : s.data.toList.drop pos = [] := List.drop_eq_nil_of_le (by rw [← size_eq]; omega)
      rw [this]; rfl
theorem count_chs (s : ByteArray) : runeCount s = (chs s.data.toList).length := by
  unfold runeCount
  rw [count_from s s.size 0 (by omega), List.drop_zero]

/-- The first piece of a text is a text of one piece. -/
theorem decodeN_cut (n b0 b1 b2 b3 c1 c2 c3 : Nat) (h1 : 1 < (decodeN n b0 b1 b2 b3).2 → c1 = b1) (h2 : 2 < (decodeN n b0 b1 b2 b3).2 → c2 = b2) (h3 : 3 < (decodeN n b0 b1 b2 b3).2 → c3 = b3)
    (hv : ¬ ((decodeN n b0 b1 b2 b3).1 = 65533 ∧ (decodeN n b0 b1 b2 b3).2 = 1)) : decodeN (decodeN n b0 b1 b2 b3).2 b0 c1 c2 c3 = decodeN n b0 b1 b2 b3 := by
  generalize hr : decodeN n b0 b1 b2 b3 = r at *
  unfold decodeN at hr
  by_cases a : b0 < 128
  · rw [if_pos a] at hr
    unfold decodeN
    rw [if_pos a, hr]
  · rw [if_neg a] at hr
    by_cases p : b0 / 32 = 6 ∧ (1 < n ∧ b1 / 64 = 2)
    · rw [if_pos p] at hr
      split at hr
      · next hc =>
        subst hr
        obtain rfl := h1 (by simp)
        unfold decodeN
        rw [if_neg a, if_pos ⟨p.1, by simp, p.2.2⟩, if_pos hc]
      · subst hr; exact absurd ⟨rfl, rfl⟩ hv
    · rw [if_neg p] at hr
      by_cases q : b0 / 16 = 14 ∧ (1 < n ∧ b1 / 64 = 2) ∧ (2 < n ∧ b2 / 64 = 2)
      · rw [if_pos q] at hr
        split at hr
        · next hc =>
          subst hr
          obtain rfl := h1 (by simp)
          obtain rfl := h2 (by simp)
          unfold decodeN
          rw [if_neg a, if_neg (fun h => by omega), if_pos ⟨q.1, ⟨by simp, q.2.1.2⟩, by simp, q.2.2.2⟩, if_pos hc]
        · subst hr; exact absurd ⟨rfl, rfl⟩ hv
      · rw [if_neg q] at hr
        by_cases s : b0 / 8 = 30 ∧ (1 < n ∧ b1 / 64 = 2) ∧ (2 < n ∧ b2 / 64 = 2) ∧ (3 < n ∧ b3 / 64 = 2)
        · rw [if_pos s] at hr
          split at hr
          · next hc =>
            subst hr
            obtain rfl := h1 (by simp)
            obtain rfl := h2 (by simp)
            obtain rfl := h3 (by simp)
            unfold decodeN
            rw [if_neg a, if_neg (fun h => by omega), if_neg (fun h => by omega), if_pos ⟨s.1, ⟨by simp, s.2.1.2⟩, ⟨by simp, s.2.2.1.2⟩, by simp, s.2.2.2.2⟩, if_pos hc]
          · subst hr; exact absurd ⟨rfl, rfl⟩ hv
        · rw [if_neg s] at hr
          subst hr; exact absurd ⟨rfl, rfl⟩ hv
theorem decodeL_first (l : List UInt8) (hne : l ≠ []) (hv : ¬ ((decodeL l).1 = 65533 ∧ (decodeL l).2 = 1)) : decodeL (l.take (decodeL l).2) = decodeL l ∧ (l.take (decodeL l).2).length = (decodeL l).2 := by
  have hl : 0 < l.length := List.length_pos_iff.2 hne
  have hw := decodeL_width l
  have hle : (decodeL l).2 ≤ l.length := by rw [decodeL_N]; exact decN_le _ _ _ _ _ hl
  have hlen : (l.take (decodeL l).2).length = (decodeL l).2 := by rw [List.length_take]; omega
  refine ⟨?_, hlen⟩
  have e : ∀ k, k < (decodeL l).2 → (l.take (decodeL l).2).getD k 0 = l.getD k 0 := fun k hk => by simp [List.getD, hk]
  rw [decodeL_N (l.take _), hlen, e 0 (by omega)]
  rw [decodeL_N l] at hv e ⊢
  exact decodeN_cut _ _ _ _ _ _ _ _ (fun h => by rw [e 1 h]) (fun h => by rw [e 2 h]) (fun h => by rw [e 3 h]) hv
theorem first_valid (l : List UInt8) (hne : l ≠ []) (hv : ¬ ((decodeL l).1 = 65533 ∧ (decodeL l).2 = 1)) : validD (l.take (decodeL l).2) = true ∧ chs (l.take (decodeL l).2) = [l.take (decodeL l).2] := by
  obtain ⟨h1, h2⟩ := decodeL_first l hne hv
  have hw := decodeL_width l
  have hne2 : l.take (decodeL l).2 ≠ [] := fun e => by rw [e] at h2; simp at h2; omega
  have hd : (l.take (decodeL l).2).drop (decodeL l).2 = [] := List.drop_eq_nil_of_le (by omega)
  have ht : (l.take (decodeL l).2).take (decodeL l).2 = l.take (decodeL l).2 := List.take_of_length_le (by omega)
  rw [validD_step _ hne2, chs_step _ hne2, h1, if_neg hv, hd, ht]
  exact ⟨rfl, rfl⟩
/-- A text, cut between two pieces. -/
theorem chs_split : ∀ (n : Nat) (l : List UInt8), validD l = true → (validD ((chs l).take n).flatten = true ∧ chs ((chs l).take n).flatten = (chs l).take n) ∧ (validD ((chs l).drop n).flatten = true ∧ chs ((chs l).drop n).flatten = (chs l).drop n)
  | 0, l, h => by
    rw [List.take_zero, List.drop_zero, chs_flatten]
    exact ⟨⟨rfl, rfl⟩, h, rfl⟩
  | n + 1, l, h => by
    by_cases hne : l = []
    · subst hne; exact ⟨⟨rfl, rfl⟩, rfl, rfl⟩
    · rw [validD_step l hne] at h
      split at h
      · cases h
      · next hv =>
        obtain ⟨f1, f2⟩ := first_valid l hne hv
        obtain ⟨⟨i1, i2⟩, i3⟩ := chs_split n _ h
        rw [chs_step l hne, List.take_succ_cons, List.drop_succ_cons, List.flatten_cons]
        refine ⟨⟨?_, ?_⟩, i3⟩
        · rw [valid_append _ f1]; exact i1
        · rw [chs_append _ f1, f2, i2]; rfl
end Go.Proofs.YtaemajcpgmaapaaDoor
