/- BkP2: Balance and Trial. -/
import Derived.Test.YtmnpdgldmpjekaaBkP1
import Derived.Test.YtmnpdgldmpjekaaProg
import Derived.Maps.OwnSet
import Derived.Maps.OwnOps
import Derived.Maps.RangeWalk
import Derived.WalkKit
import Derived.KernelRfl
namespace Go.Bk
open Go Go.Maps Go.RowKit Go.Proofs
open Go.WideMaps (keyOf_string_mk)
set_option linter.unusedVariables false
theorem law9 : Keyed Try.prog 9 := string_keyed Try.underlying9
theorem zero2 (w : World) : (zeroValue 2).run Try.prog w = .ok (.int .i64 0) w := by kernel_rfl

theorem balance (sb bm n : Nat) (D : DataW Unit) (x : ByteArray) (w : World) (c1 : w.cell? ⟨sb, 0 + 1, none⟩ = some (.map (some bm)))
    (hown : w.ownsMap Try.prog 9 (plainElem Try.prog 2) bm n D) (hx : x.size ≤ maxLen) :
    Calls Try.prog 10 #[.pointer (some ⟨sb, 0, none⟩), .string x] w fun e w' => ∃ c, e = .returned (.int .i64 c) ∧ D.atKey (.string x.data.toList) (.lit (.int .i64 0)) = .lit (.int .i64 c) ∧ w' = w := by
  have hkey := keyOf_string_mk Try.underlying9 hx
  go_enter Try.func10, Try.ntmps10
  go_wp2_with (first
    | (at_lookup; refine wpList_lookup_own_int _ rfl _ _ 48 rfl 9 2 .i64 law9 Try.underlying48 Try.underlying2 (zero2 _) bm n D rfl hown _ _ rfl hkey ?_; intro c hat hwc)
    | go_in)
  go_ret
  exact ⟨c, rfl, hat, rfl⟩

theorem wrap64_wf (x : Int) : (Lit.int .i64 (wrap64 x)).wf = true := by
  simp [Lit.wf, IntKind.min, IntKind.max, IntKind.bits, IntKind.signed, wrap64]
  omega
theorem inv9 : ∀ (key : Value) (kl : Lit), keyOf Try.prog 9 key = some kl → ∃ x : List UInt8, key = encStr x := fun key kl h => by
  obtain ⟨x, hx, _⟩ := Maps.keyOf_str Try.underlying9 h
  exact ⟨x, hx⟩
theorem inv2 : ∀ (v : Value) (y : DataW Unit × List MemPlace), plainElem Try.prog 2 v = some y → ∃ c, v = Value.int .i64 c := fun v y h => by
  obtain ⟨c, hc, _⟩ := plainElem_int_inv Try.underlying2 h
  exact ⟨c, hc⟩

set_option maxRecDepth 100000 in
theorem trial (sb bm n : Nat) (D : DataW Unit) (w : World) (c1 : w.cell? ⟨sb, 0 + 1, none⟩ = some (.map (some bm)))
    (hown : w.ownsMap Try.prog 9 (plainElem Try.prog 2) bm n D) :
    Calls Try.prog 11 #[.pointer (some ⟨sb, 0, none⟩)] w fun e w' => ∃ u d, e = .returned (.tuple #[.int .i64 u, .int .i64 d]) ∧ (Lit.int .i64 u).wf = true ∧ (Lit.int .i64 d).wf = true ∧ (u - d - tot D) % 18446744073709551616 = 0 ∧ w.grownBy w' none := by
  have ht := hown.tidy law9
  go_enter Try.func11, Try.ntmps11
  go_wp2_with (first
    | (at_range; refine wpList_range_own _ rfl _ 48 rfl 9 2 law9 Try.underlying48 _ bm n _ rfl hown ?_; intro w0 hrg0 hg0 hs0)
    | go_in)
  go_frame
  go_loopw [4, 5] (fun v4 v5 wr => ∃ (u d : Int) (left : Lit → Bool) (cnt : Nat), v4 = .int .i64 u ∧ v5 = .int .i64 d ∧ (Lit.int .i64 u).wf = true ∧ (Lit.int .i64 d).wf = true ∧
      (u - d - (tot D - rest D left)) % 18446744073709551616 = 0 ∧ wr.ranges Try.prog 9 (plainElem Try.prog 2) bm w.heap.size n D left cnt ∧ w.grownBy wr none)
    (fun _ _ wr => wr.rangeLeft bm w.heap.size)
  case atStart => 
    obtain ⟨es, rfl, hp, hk⟩ := hown.entries law9
    exact ⟨0, 0, _, _, rfl, rfl, by decide, by decide, by rw [rest_all hk]; omega, hrg0, hg0⟩
  case round =>
    obtain ⟨u, d, left, cnt, rfl, rfl, hwu, hwd, hs, hrg, hgw⟩ := hrel
    go_wp2_with (first
      | (at_next; refine wpList_next_ranges _ rfl _ rfl 9 law9 (plainElem Try.prog 2) encStr (Value.int .i64) inv9 inv2 bm w.heap.size n _ _ _ rfl hrg ?_ ?_)
      | go_in)
    · intro _ hl0
      go_wp2
      go_ret2
      exact ⟨u, d, rfl, hwu, hwd, by rw [rest_none D hl0] at hs; omega, hgw⟩
    · intro x c kl y yp w1 cnt' hkx hlx hry hat hrg1 hlt hg1 hs1 hen
      obtain ⟨c', ec, ey, hwc⟩ := plainElem_int_inv Try.underlying2 hry
      cases ec
      obtain ⟨rfl, rfl⟩ := Prod.mk.inj ey
      have hst := rest_step ht (law9.key hkx) hlx hat
      have hgw1 := hgw.andThen hg1 (fun j hj => by cases hj; exact Or.inl (Nat.le_refl _))
      have hnum : num (H := Unit) (.lit (.int .i64 c)) = c := rfl
      rw [hnum] at hst
      clear hnum
      go_wp2_with go_in
      · go_roundw
        case rel =>
          refine ⟨_, _, _, cnt', rfl, rfl, wrap64_wf _, hwd, ?_, hrg1, hgw1⟩
          rw [hst] at hs
          unfold wrap64
          omega
        case measure => rw [hrg1.left_eq, hrg.left_eq]; exact hlt
      · go_roundw
        case rel =>
          refine ⟨_, _, _, cnt', rfl, rfl, hwu, wrap64_wf _, ?_, hrg1, hgw1⟩
          rw [hst] at hs
          unfold wrap64
          omega
        case measure => rw [hrg1.left_eq, hrg.left_eq]; exact hlt
end Go.Bk
