/- change.To, change.Right. -/
import Derived.Test.YtaemajcpgmaapaaDoorChange1
namespace Go.Proofs.YtaemajcpgmaapaaDoor
open Go.RowKit

def toGo : List Op → Int → Int → Int × Int
  | [], _, n => if 20000 < n then (0, 3) else (n, 0)
  | o :: l, left, n => if (oneR o left).2.2 = 0 then toGo l (left - (oneR o left).1) (n + (oneR o left).2.1) else (0, (oneR o left).2.2)
/-- change.To: how many runes there are behind it; its error. -/
def toR (c : Change) : Int × Int :=
  if c.from_ < 0 ∨ 20000 < c.from_ then (0, 31) else if 2000 < c.ops.length then (0, 2) else toGo c.ops c.from_ c.from_
def R2 (r : Int × Int) : Value := .tuple #[.int .i64 r.1, .int .i64 r.2]
theorem cntN_le (s : ByteArray) : 0 ≤ cntN s ∧ cntN s ≤ 20000 := by
  unfold cntN
  split
  · omega
  · omega
theorem oneR_bd (o : Op) (left : Int) (h : (oneR o left).2.2 = 0) (hl : 0 ≤ left) (hl2 : left ≤ 20000) :
    0 ≤ (oneR o left).1 ∧ (oneR o left).1 ≤ left ∧ -20000 ≤ (oneR o left).2.1 ∧ (oneR o left).2.1 ≤ 20000 := by
  by_cases hs : shapedB o = false
  · simp [oneR, hs] at h
  · have hsn := shaped_n (by simpa using hs)
    rw [oneR, if_neg hs] at h ⊢
    by_cases h2 : o.kind = 2
    · rw [if_pos h2] at h ⊢
      split at h
      · rename_i hc
        rw [if_pos hc]
        have := cntN_le o.text
        simp only
        omega
      · rename_i hc
        exact absurd h hc
    · rw [if_neg h2] at h ⊢
      split at h
      · rename_i hc
        rw [if_pos hc]
        split at h
        · exact absurd h (by decide)
        · rename_i hlt
          rw [if_neg hlt]
          split <;> simp only <;> omega
      · rename_i hc
        exact absurd h hc

set_option maxRecDepth 100000 in
set_option maxHeartbeats 2000000 in
theorem to_any (f : Int) (vo : Value) (l : List Op) (S : Nat → Prop) (w : World) (h : Rd KO S w vo l) (hT : Tabs w) :
    Calls Tryd.prog 34 #[.agg #[.int .i64 f, vo]] w fun e w' => e = .returned (R2 (toR ⟨f, l⟩)) ∧ Below w.heap.size w w' := by
  obtain ⟨A, c, rfl, _, hr⟩ := h
  have hlen := hr.len
  by_cases hf : f < 0 ∨ 20000 < f
  · have HE : Hid (toR ⟨f, l⟩ = (0, 31)) := by rw [Hid, toR, if_pos hf]
    by_cases hf0 : f < 0
    · clear hf
      go_enter Tryd.func34, Tryd.ntmps34
      go_wp2_with fail
      go_ret2
      exact ⟨by rw [HE.out]; rfl, (Below.refl _ _).alloc (Nat.le_refl _) _⟩
    · have hf1 : 20000 < f := by omega
      clear hf
      go_enter Tryd.func34, Tryd.ntmps34
      go_wp2_with fail
      go_ret2
      exact ⟨by rw [HE.out]; rfl, (Below.refl _ _).alloc (Nat.le_refl _) _⟩
  · have hf0 : ¬ f < 0 := by omega
    have hf1 : ¬ 20000 < f := by omega
    by_cases hl : 2000 < l.length
    · have HE : Hid (toR ⟨f, l⟩ = (0, 2)) := by rw [Hid, toR, if_neg hf, if_pos hl]
      have hl' : (2000 : Int) < (l.length : Int) := by omega
      clear hf
      go_enter Tryd.func34, Tryd.ntmps34
      go_wp2_with fail
      go_ret2
      exact ⟨by rw [HE.out]; rfl, (Below.refl _ _).alloc (Nat.le_refl _) _⟩
    · have HE : Hid (toR ⟨f, l⟩ = toGo l f f) := by rw [Hid, toR, if_neg hf, if_neg hl]
      have hl' : ¬ (2000 : Int) < (l.length : Int) := by omega
      clear hf
      go_enter Tryd.func34, Tryd.ntmps34
      go_wp2_with fail
      go_quiet (fail)
      go_wp2_with fail
      go_loopg [4, 5, 32] (l.length + 1) (fun g s4 s5 s32 wr => ∃ (k : Nat) (left n : Int), k ≤ l.length ∧ l.length - k < g ∧ s4 = .int .i64 left ∧ s5 = .int .i64 n ∧ s32 = .int .i64 k ∧ 0 ≤ left ∧ left ≤ 20000 ∧ -20000 - 20000 * (k : Int) ≤ n ∧ n ≤ 20000 + 20000 * (k : Int) ∧ Below w.heap.size w wr ∧ Aside (toGo l f f = toGo (l.drop k) left n))
      case atStart => exact ⟨0, f, f, Nat.zero_le _, by omega, rfl, rfl, rfl, by omega, by omega, by omega, by omega, below_drewN ((Below.refl _ _).alloc (Nat.le_refl _) _) _, (show Aside _ from rfl)⟩
      case round =>
        obtain ⟨k, left, n, hk, hg, rfl, rfl, rfl, hl0, hl1, hn0, hn1, hb, Ad⟩ := hrel
        by_cases hlt : k < l.length
        · have hlz : (k : Int) < (l.length : Int) := by omega
          obtain ⟨b, o, A2, c2, rfl, hS, hbw, hc0, hc1, hc2, hc3, hva, hft⟩ := hr.ops k hlt
          have hd0 := (hb.cell (p := ⟨b, o + k * 4, none⟩) hbw).trans hc0
          have hd1 := (hb.cell (p := ⟨b, o + k * 4 + 1, none⟩) hbw).trans hc1
          have hd2 := (hb.cell (p := ⟨b, o + k * 4 + 2, none⟩) hbw).trans hc2
          have hd3 := (hb.cell (p := ⟨b, o + k * 4 + 3, none⟩) hbw).trans hc3
          have hbd := oneR_bd l[k] left
          have hbx : Below w.heap.size w (wr.alloc (.cells #[.int .i64 l[k].kind, .int .i64 l[k].n, .string l[k].text, .slice A2 l[k].attrs.length c2] 30)) := hb.alloc hb.size _
          have c1 := one_any l[k].kind l[k].n l[k].text _ l[k].attrs S left _ (hva.below hbx) hft (hT.below hbx) hl1
          have hop : (⟨l[k].kind, l[k].n, l[k].text, l[k].attrs⟩ : Op) = l[k] := rfl
          rw [hop] at c1
          rw [List.drop_eq_getElem_cons hlt] at Ad
          generalize l[k] = op at *
          clear hc0 hc1 hc2 hc3 hva hop hbx
          have hstep : toGo (op :: l.drop (k + 1)) left n = if (oneR op left).2.2 = 0 then toGo (l.drop (k + 1)) (left - (oneR op left).1) (n + (oneR op left).2.1) else (0, (oneR op left).2.2) := rfl
          obtain ⟨⟨tk, mo, er⟩, hr1⟩ : ∃ r, oneR op left = r := ⟨_, rfl⟩
          rw [hr1] at c1 hstep hbd
          simp only [R3] at c1 hstep hbd
          clear hr1
          by_cases he : er = 0
          · subst he
            have HM : Aside (toGo l f f = toGo (l.drop (k + 1)) (left - tk) (n + mo)) := Ad.trans (hstep.trans (if_pos rfl))
            obtain ⟨h1, h2, h3, h4⟩ := hbd rfl hl0 hl1
            clear hstep Ad hbd
            go_wp2_with (go_at_call 92; refine c1.mono ?_; rintro e w1 ⟨rfl, hb1⟩)
            go_roundg (l.length + 1 - (k + 1))
            case measure => omega
            case rel =>
              exact ⟨k + 1, left - tk, n + mo, by omega, by omega, rfl, rfl, by go_num, by omega, by omega, by omega, by omega, (hb.alloc hb.size _).trans (hb1.mono (by have := hb.size; (try simp) <;> omega)), HM⟩
          · have HM : Hid (toR ⟨f, l⟩ = (0, er)) := HE.out.trans (Ad.trans (hstep.trans (if_neg he)))
            have hne : (er == 0) = false := by simp [he]
            clear hstep Ad hbd he HE
            go_wp2_with (go_at_call 92; refine c1.mono ?_; rintro e w1 ⟨rfl, hb1⟩)
            go_ret2
            exact ⟨by rw [HM.out]; rfl, (hb.alloc hb.size _).trans (hb1.mono (by have := hb.size; (try simp) <;> omega))⟩
        · have hlz : ¬ (k : Int) < (l.length : Int) := by omega
          have HM : Hid (toR ⟨f, l⟩ = if 20000 < n then (0, 3) else (n, 0)) := by
            rw [Hid, HE.out, Ad, List.drop_eq_nil_of_le (by omega)]; rfl
          clear Ad HE
          by_cases hn : 20000 < n
          · rw [if_pos hn] at HM
            go_wp2
            go_ret2
            exact ⟨by rw [HM.out]; rfl, hb⟩
          · rw [if_neg hn] at HM
            go_wp2
            go_ret2
            exact ⟨by rw [HM.out]; rfl, hb⟩

end Go.Proofs.YtaemajcpgmaapaaDoor
