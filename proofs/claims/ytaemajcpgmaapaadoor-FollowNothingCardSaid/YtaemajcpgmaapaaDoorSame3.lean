/- change.Nothing; change.Same and what it calls. -/
import Derived.Test.YtaemajcpgmaapaaDoorNorm3
namespace Go.Proofs.YtaemajcpgmaapaaDoor
open Go.RowKit

def opEq (a b : Op) : Bool := decide (a.kind = b.kind) && (decide (a.n = b.n) && (decide (a.text = b.text) && attrsEq a.attrs b.attrs))
def nothR (n : Int) : Change × Int := if n < 0 ∨ 20000 < n then (⟨0, []⟩, 31) else (⟨n, []⟩, 0)

set_option maxHeartbeats 1000000 in
theorem noth_any (n : Int) (w : World) :
    Calls Tryd.prog 37 #[.int .i64 n] w fun e w' => e = .returned (.tuple #[.agg #[.int .i64 (nothR n).1.from_, .slice none 0 0], .int .i64 (nothR n).2]) ∧ Below w.heap.size w w' := by
  by_cases h0 : n < 0
  · have HN : Hid (nothR n = (⟨0, []⟩, 31)) := by unfold Hid nothR; rw [if_pos (.inl h0)]
    go_enter Tryd.func37, Tryd.ntmps37
    go_wp2_with fail
    refine bodyPost_ret (v := .tuple #[.agg #[.int .i64 0, .slice none 0 0], .int .i64 31]) (by simp [results, Tryd.results37, go_sem]) rfl ⟨by rw [HN.out], ?_⟩
    exact (Below.refl _ _).alloc (Nat.le_refl _) _
  · by_cases h1 : 20000 < n
    · have HN : Hid (nothR n = (⟨0, []⟩, 31)) := by unfold Hid nothR; rw [if_pos (.inr h1)]
      go_enter Tryd.func37, Tryd.ntmps37
      go_wp2_with fail
      refine bodyPost_ret (v := .tuple #[.agg #[.int .i64 0, .slice none 0 0], .int .i64 31]) (by simp [results, Tryd.results37, go_sem]) rfl ⟨by rw [HN.out], ?_⟩
      exact (Below.refl _ _).alloc (Nat.le_refl _) _
    · have HN : Hid (nothR n = (⟨n, []⟩, 0)) := by unfold Hid nothR; rw [if_neg (by omega)]
      go_enter Tryd.func37, Tryd.ntmps37
      go_wp2_with fail
      refine bodyPost_ret (v := .tuple #[.agg #[.int .i64 n, .slice none 0 0], .int .i64 0]) (by simp [results, Tryd.results37, go_sem]) rfl ⟨by rw [HN.out], ?_⟩
      exact (Below.refl _ _).alloc (Nat.le_refl _) _

theorem str_eq_of (x y : ByteArray) : x = y ∨ x ≠ y := Classical.em _

set_option maxHeartbeats 2000000 in
theorem same1_any (a b : Op) (va vb : Value) (S1 S2 : Nat → Prop) (w : World) (ha : Rd KA S1 w va a.attrs) (hb : Rd KA S2 w vb b.attrs) :
    Calls Tryd.prog 97 #[.agg #[.int .i64 a.kind, .int .i64 a.n, .string a.text, va], .agg #[.int .i64 b.kind, .int .i64 b.n, .string b.text, vb]] w fun e w' => e = .returned (.bool (opEq a b)) ∧ Below w.heap.size w w' := by
  have cs := same_q va vb a.attrs b.attrs S1 S2
  obtain ⟨A1, c1, rfl, hA1, hr1⟩ := ha
  obtain ⟨A2, c2, rfl, hA2, hr2⟩ := hb
  have hbb : Below w.heap.size w ((w.alloc (.cells #[.int .i64 a.kind, .int .i64 a.n, .string a.text, .slice A1 a.attrs.length c1] 30)).alloc (.cells #[.int .i64 b.kind, .int .i64 b.n, .string b.text, .slice A2 b.attrs.length c2] 30)) := ((Below.refl _ _).alloc (Nat.le_refl _) _).alloc (by simp) _
  by_cases hk : a.kind = b.kind
  · have hkb : (a.kind == b.kind) = true := by simp [hk]
    by_cases hn : a.n = b.n
    · have hnb : (a.n == b.n) = true := by simp [hn]
      by_cases ht : a.text = b.text
      · have HO : Hid (opEq a b = attrsEq a.attrs b.attrs) := by unfold Hid opEq; simp [hk, hn, ht]
        have htb : (a.text.toList == b.text.toList) = true := by simp [ht]
        have HK := Lib.hid hk
        have HN := Lib.hid hn
        have HT := Lib.hid ht
        clear hk hn ht
        go_enter Tryd.func97, Tryd.ntmps97
        go_wp2_with fail
        have cs1 := cs _ (Rd.below ⟨A1, c1, rfl, hA1, hr1⟩ hbb) (Rd.below ⟨A2, c2, rfl, hA2, hr2⟩ hbb)
        with_reducible refine cs1.mono ?_
        rintro e w2 ⟨rfl, m, rfl⟩
        go_wp2_with fail
        go_ret
        exact ⟨by rw [HO.out]; rfl, below_drewN hbb _⟩
      · have HO : Hid (opEq a b = false) := by unfold Hid opEq; simp [ht]
        have htb : (a.text.toList == b.text.toList) = false := beq_eq_false_iff_ne.2 fun e => ht (toList_inj e)
        have HK := Lib.hid hk
        have HN := Lib.hid hn
        have HT := Lib.hid ht
        clear hk hn ht
        go_enter Tryd.func97, Tryd.ntmps97
        go_wp2_with fail
        go_ret
        exact ⟨by rw [HO.out]; rfl, hbb⟩
    · have HO : Hid (opEq a b = false) := by unfold Hid opEq; simp [hn]
      have hnb : (a.n == b.n) = false := by simp [hn]
      have HK := Lib.hid hk
      have HN := Lib.hid hn
      clear hk hn
      go_enter Tryd.func97, Tryd.ntmps97
      go_wp2_with fail
      go_ret
      exact ⟨by rw [HO.out]; rfl, hbb⟩
  · have HO : Hid (opEq a b = false) := by unfold Hid opEq; simp [hk]
    have hkb : (a.kind == b.kind) = false := by simp [hk]
    have HK := Lib.hid hk
    clear hk
    go_enter Tryd.func97, Tryd.ntmps97
    go_wp2_with fail
    go_ret
    exact ⟨by rw [HO.out]; rfl, hbb⟩
end Go.Proofs.YtaemajcpgmaapaaDoor
