/- attrs.Same draws, and turns nothing. -/
import Derived.Test.YtaemajcpgmaapaaDoorAttrs3
namespace Go.Proofs.YtaemajcpgmaapaaDoor
open Go.RowKit

set_option maxHeartbeats 2000000 in
theorem equal_q (v1 v2 : Value) (l1 l2 : List Attr) (S1 S2 : Nat → Prop) (w : World) (h1 : Rd KA S1 w v1 l1) (h2 : Rd KA S2 w v2 l2) :
    Calls Tryd.prog 147 #[v1, v2] w fun e w' => e = .returned (.bool (attrsEq l1 l2)) ∧ ∃ m, w' = w.drewN m := by
  obtain ⟨A1, c1, rfl, _, hr1⟩ := h1
  obtain ⟨A2, c2, rfl, _, hr2⟩ := h2
  have hlen1 := hr1.len
  have hlen2 := hr2.len
  by_cases hL : l1.length = l2.length
  · have HL := Lib.hid hL
    clear hL
    have hL2 : (l1.length : Int) ≤ l2.length := by have := HL.out; omega
    have hL3 : (l2.length : Int) ≤ l1.length := by have := HL.out; omega
    have hne : ((l1.length : Int) != (l2.length : Int)) = false := by have := HL.out; simp [this]
    go_enter Tryd.func147, Tryd.ntmps147
    go_wp2_with fail
    go_loopg [13] (l1.length + 1) (fun g s13 wr => ∃ k : Nat, k ≤ l1.length ∧ l1.length - k < g ∧ s13 = .int .i64 k ∧ (∃ q, wr = w.drewN q) ∧ Aside (∀ j (hj : j < l1.length) (hj2 : j < l2.length), j < k → l1[j] = l2[j]))
    case atStart => exact ⟨0, Nat.zero_le _, by omega, rfl, ⟨0, rfl⟩, (show Aside _ from fun j h _ hj => absurd hj (Nat.not_lt_zero _))⟩
    case round =>
      obtain ⟨k, hk, hg, rfl, ⟨q, rfl⟩, Ad⟩ := hrel
      by_cases hlt : k < l1.length
      · have hlz : (k : Int) < (l1.length : Int) := by omega
        have hlz2 : (k : Int) < (l2.length : Int) := by omega
        obtain ⟨b1, o1, rfl, _, hbw1, hc0, hc1, _, _⟩ := hr1.attr k hlt
        obtain ⟨b2, o2, rfl, _, hbw2, hp0, hp1, _, _⟩ := hr2.attr k (by omega)
        have hd0 := hc0
        have hd1 := hc1
        have hq0 := hp0
        have hq1 := hp1
        clear hc0 hc1 hp0 hp1
        have hsame := attrSame_eq l1[k] l2[k]
        have hneq := neq_attr l1[k].key l1[k].val l2[k].key l2[k].val
        have hgd : ∀ (x y : Operand) (w : World), (eqGuard .neq 102 x y (.agg #[.string l1[k].key, .string l1[k].val]) (.agg #[.string l2[k].key, .string l2[k].val])).run Tryd.prog w = .ok () w := fun x y w => run_eqGuard_agg w _ _ x y _ _ attr_guard
        by_cases hs : l1[k] = l2[k]
        · rw [hsame, decide_eq_true hs] at hneq
          have HS : Aside (∀ j (hj : j < l1.length) (hj2 : j < l2.length), j < k + 1 → l1[j] = l2[j]) := fun j hj hj2 hjk => by
            by_cases e : j = k
            · subst e; exact hs
            · exact Ad j hj hj2 (by omega)
          clear hsame hs Ad
          generalize l1[k].key = ka at hd0 hneq hgd
          generalize l1[k].val = vala at hd1 hneq hgd
          generalize l2[k].key = kb at hq0 hneq hgd
          generalize l2[k].val = valb at hq1 hneq hgd
          go_wp2_with fail
          go_quiet (fail)
          go_wp2
          go_roundg (l1.length + 1 - (k + 1))
          case measure => omega
          case rel => exact ⟨k + 1, by omega, by omega, by go_num, (by first | exact ⟨_, rfl⟩ | exact ⟨_, World.drewN_drewN ..⟩), HS⟩
        · rw [hsame, decide_eq_false hs] at hneq
          have HS : Hid (attrsEq l1 l2 = false) := by
            refine decide_eq_false fun e => hs ?_
            subst e; rfl
          clear hsame hs Ad
          generalize l1[k].key = ka at hd0 hneq hgd
          generalize l1[k].val = vala at hd1 hneq hgd
          generalize l2[k].key = kb at hq0 hneq hgd
          generalize l2[k].val = valb at hq1 hneq hgd
          go_wp2_with fail
          go_quiet (fail)
          go_wp2
          go_ret
          exact ⟨by rw [HS.out]; rfl, (by first | exact ⟨_, rfl⟩ | exact ⟨_, World.drewN_drewN ..⟩)⟩
      · have hlz : ¬ (k : Int) < (l1.length : Int) := by omega
        have HS : Hid (attrsEq l1 l2 = true) := decide_eq_true (List.ext_getElem HL.out fun j h1 h2 => Ad j h1 h2 (by omega))
        clear Ad
        go_wp2
        go_ret
        exact ⟨by rw [HS.out]; rfl, _, rfl⟩
  · have hne : ((l1.length : Int) != (l2.length : Int)) = true := by simp; omega
    have HS : Hid (attrsEq l1 l2 = false) := decide_eq_false fun e => hL (by rw [e])
    clear hL
    go_enter Tryd.func147, Tryd.ntmps147
    go_wp2_with fail
    go_ret
    exact ⟨by rw [HS.out]; rfl, 0, rfl⟩

theorem same_q (v1 v2 : Value) (l1 l2 : List Attr) (S1 S2 : Nat → Prop) (w : World) (h1 : Rd KA S1 w v1 l1) (h2 : Rd KA S2 w v2 l2) :
    Calls Tryd.prog 98 #[v1, v2] w fun e w' => e = .returned (.bool (attrsEq l1 l2)) ∧ ∃ m, w' = w.drewN m := by
  have c1 := equal_q v1 v2 l1 l2 S1 S2 w h1 h2
  go_enter Tryd.func98, Tryd.ntmps98
  go_wp2_with (go_at_call 147; (with_reducible refine c1.mono ?_); rintro e w' ⟨rfl, hb2⟩)
  go_ret
  exact ⟨rfl, hb2⟩

end Go.Proofs.YtaemajcpgmaapaaDoor
