/- BkQ6: sums of what a map's numbers give. -/
import Derived.Test.YtmnpdgldmpjekaaBkP8
import Derived.Test.YtmnpdgldmpjekaaBkQc
import Derived.Laws.StructEq
namespace Go.Bk
open Go Go.Maps
set_option linter.unusedVariables false
variable {H : Type}
def gnum (g : Int → Int) (d : DataW H) : Int := g (num d)
def sumG (g : Int → Int) : List (Lit × DataW H) → Int
  | [] => 0
  | p :: l => gnum g p.2 + sumG g l
/-- All of a map's numbers together. -/
def totG (g : Int → Int) : DataW H → Int
  | .map es => sumG g es
  | _ => 0

theorem sumG_perm (g : Int → Int) (g0 : g 0 = 0) {l m : List (Lit × DataW H)} (h : l.Perm m) : sumG g l = sumG g m := by
  induction h with
  | nil => rfl
  | cons x _ ih => simp only [sumG, ih]
  | swap x y l => simp only [sumG]; omega
  | trans _ _ a b => exact a.trans b

/-- What is taken out, and what is left. -/
theorem sumG_split (g : Int → Int) (g0 : g 0 = 0) {k : Lit} (hk : WideAt.IsKeyLit k) : ∀ {es : List (Lit × DataW H)}, es.Pairwise (fun p q => p.1 ≠ q.1) →
    sumG g es = gnum g ((DataW.map es).atKey k (.lit (.int .i64 0))) + sumG g (es.filter fun p => !p.1.sameKey k) := by
  intro es
  induction es with
  | nil => intro _; simp [sumG, DataW.atKey, gnum, num, g0]
  | cons p l ih =>
    intro hp
    rw [List.pairwise_cons] at hp
    by_cases e : p.1 = k
    · subst e
      have hs := WideAt.sameKey_self hk
      have hf : l.filter (fun q => !q.1.sameKey p.1) = l := filter_none fun q hq e => hp.1 q hq e.symm
      simp [sumG, DataW.atKey, hs, hf]
    · have hs : p.1.sameKey k = false := by
        cases h : p.1.sameKey k with
        | false => rfl
        | true => exact absurd (WideAt.sameKey_eq h) e
      have h := ih hp.2
      have ha : (DataW.map (p :: l)).atKey k (.lit (.int .i64 0)) = (DataW.map l).atKey k (.lit (.int .i64 0)) := by simp [DataW.atKey, hs]
      rw [ha, List.filter_cons, if_pos (by simp [hs])]
      simp only [sumG]
      omega

/-- What is still to come. -/
def restG (g : Int → Int) (D : DataW H) (left : Lit → Bool) : Int :=
  match D with
  | .map es => sumG g (es.filter fun p => left p.1)
  | _ => 0

theorem restG_none (g : Int → Int) (g0 : g 0 = 0) (D : DataW H) {left : Lit → Bool} (h : ∀ k, left k = false) : restG g D left = 0 := by
  unfold restG
  split
  · rename_i es
    rw [List.filter_eq_nil_iff.2 (fun p _ => by simp [h])]
    rfl
  · rfl

theorem restG_all (g : Int → Int) (g0 : g 0 = 0) {es : List (Lit × DataW H)} (hk : ∀ p ∈ es, WideAt.IsKeyLit p.1) : restG g (.map es) (Maps.has (.map es)) = totG g (.map es) := by
  show sumG g (es.filter fun p => Maps.has (.map es) p.1) = sumG g es
  rw [List.filter_eq_self.2 fun p hp => ?_]
  exact List.any_eq_true.2 ⟨p, hp, WideAt.sameKey_self (hk p hp)⟩

theorem restG_step (g : Int → Int) (g0 : g 0 = 0) {D : DataW H} (hD : Tidy D) {left : Lit → Bool} {k : Lit} (hk : WideAt.IsKeyLit k) (hl : left k = true) {y : DataW H} (hat : ∀ z, D.atKey k z = y) :
    restG g D left = gnum g y + restG g D (fun z => left z && !z.sameKey k) := by
  obtain ⟨es, rfl, hp⟩ := hD
  have h := sumG_split g g0 (H := H) hk (es := es.filter fun p => left p.1) (hp.sublist List.filter_sublist)
  have ha : (DataW.map (es.filter fun p => left p.1)).atKey k (.lit (.int .i64 0)) = y := by
    rw [← hat (.lit (.int .i64 0))]
    have : ∀ l : List (Lit × DataW H), (l.filter fun p => left p.1).find? (fun p => p.1.sameKey k) = l.find? (fun p => p.1.sameKey k) :=
      fun l => Maps.find_filter_keep (f := fun p => p.1.sameKey k) (g := fun p => left p.1) (fun p hp => by rw [WideAt.sameKey_eq hp]; exact hl) l
    simp only [DataW.atKey, this]
  rw [ha] at h
  show sumG g _ = _
  rw [h]
  show _ = gnum g y + sumG g (es.filter fun p => left p.1 && !p.1.sameKey k)
  rw [List.filter_filter]
  congr 3
  funext p
  exact Bool.and_comm _ _

/-- Over all its keys. -/
def sumKG (g : Int → Int) (D : DataW H) : List (List UInt8) → Int
  | [] => 0
  | x :: l => gnum g (D.atKey (.string x) (.lit (.int .i64 0))) + sumKG g D l

theorem sumKG_perm (g : Int → Int) (g0 : g 0 = 0) (D : DataW H) {l m : List (List UInt8)} (h : l.Perm m) : sumKG g D l = sumKG g D m := by
  induction h with
  | nil => rfl
  | cons x _ ih => simp only [sumKG, ih]
  | swap x y l => simp only [sumKG]; omega
  | trans _ _ a b => exact a.trans b

theorem sumKG_all (g : Int → Int) (g0 : g 0 = 0) {es : List (Lit × DataW H)} (hp : es.Pairwise (fun p q => p.1 ≠ q.1)) (hs : ∀ p ∈ es, ∃ x, p.1 = .string x) : sumKG g (.map es) (strKeys (.map es)) = totG g (.map es) := by
  show sumKG g (.map es) (es.map fun p => strOf p.1) = sumG g es
  have key : ∀ l : List (Lit × DataW H), (∀ p ∈ l, p ∈ es) → sumKG g (.map es) (l.map fun p => strOf p.1) = sumG g l := by
    intro l
    induction l with
    | nil => intro _; rfl
    | cons p l ih =>
      intro hl
      obtain ⟨x, hx⟩ := hs p (hl p (List.mem_cons_self ..))
      simp only [List.map_cons, sumKG, sumG]
      rw [ih fun q hq => hl q (List.mem_cons_of_mem _ hq)]
      congr 2
      rw [hx]
      refine WideAt.atKey_mem _ trivial hp ?_
      show ((Lit.string x), p.2) ∈ es
      rw [← hx]
      exact hl p (List.mem_cons_self ..)
  exact key es fun _ h => h

def posF (x : Int) : Int := if x > 0 then x else 0
def negF (x : Int) : Int := if x > 0 then 0 else -x
open Go.RowKit Go.Proofs
set_option maxRecDepth 100000 in
theorem trial2 (sb bm n : Nat) (D : DataW Unit) (w : World) (c1 : w.cell? ⟨sb, 0 + 1, none⟩ = some (.map (some bm)))
    (hown : w.ownsMap Try.prog 9 (plainElem Try.prog 2) bm n D) :
    Calls Try.prog 11 #[.pointer (some ⟨sb, 0, none⟩)] w fun e w' => ∃ u d, e = .returned (.tuple #[.int .i64 u, .int .i64 d]) ∧ (Lit.int .i64 u).wf = true ∧ (Lit.int .i64 d).wf = true ∧ (u - totG posF D) % 18446744073709551616 = 0 ∧ (d - totG negF D) % 18446744073709551616 = 0 ∧ w.grownBy w' none := by
  have ht := hown.tidy law9
  go_enter Try.func11, Try.ntmps11
  go_wp2_with (first
    | (at_range; refine wpList_range_own _ rfl _ 48 rfl 9 2 law9 Try.underlying48 _ bm n _ rfl hown ?_; intro w0 hrg0 hg0 hs0)
    | go_in)
  go_frame
  go_loopw [4, 5] (fun v4 v5 wr => ∃ (u d : Int) (left : Lit → Bool) (cnt : Nat), v4 = .int .i64 u ∧ v5 = .int .i64 d ∧ (Lit.int .i64 u).wf = true ∧ (Lit.int .i64 d).wf = true ∧
      (u - (totG posF D - restG posF D left)) % 18446744073709551616 = 0 ∧ (d - (totG negF D - restG negF D left)) % 18446744073709551616 = 0 ∧ wr.ranges Try.prog 9 (plainElem Try.prog 2) bm w.heap.size n D left cnt ∧ w.grownBy wr none)
    (fun _ _ wr => wr.rangeLeft bm w.heap.size)
  case atStart =>
    obtain ⟨es, rfl, hp, hk⟩ := hown.entries law9
    exact ⟨0, 0, _, _, rfl, rfl, by decide, by decide, by rw [restG_all posF (by decide) hk]; omega, by rw [restG_all negF (by decide) hk]; omega, hrg0, hg0⟩
  case round =>
    obtain ⟨u, d, left, cnt, rfl, rfl, hwu, hwd, hs, hs', hrg, hgw⟩ := hrel
    go_wp2_with (first
      | (at_next; refine wpList_next_ranges _ rfl _ rfl 9 law9 (plainElem Try.prog 2) encStr (Value.int .i64) inv9 inv2 bm w.heap.size n _ _ _ rfl hrg ?_ ?_)
      | go_in)
    · intro _ hl0
      go_wp2
      go_ret2
      exact ⟨u, d, rfl, hwu, hwd, by rw [restG_none posF (by decide) D hl0] at hs; omega, by rw [restG_none negF (by decide) D hl0] at hs'; omega, hgw⟩
    · intro x c kl y yp w1 cnt' hkx hlx hry hat hrg1 hlt hg1 hs1 hen
      obtain ⟨c', ec, ey, hwc⟩ := plainElem_int_inv Try.underlying2 hry
      cases ec
      obtain ⟨rfl, rfl⟩ := Prod.mk.inj ey
      have hst := restG_step posF (by decide) ht (law9.key hkx) hlx hat
      have hst' := restG_step negF (by decide) ht (law9.key hkx) hlx hat
      have hgw1 := hgw.andThen hg1 (fun j hj => by cases hj; exact Or.inl (Nat.le_refl _))
      have hnum : gnum (H := Unit) posF (.lit (.int .i64 c)) = posF c := rfl
      have hnum' : gnum (H := Unit) negF (.lit (.int .i64 c)) = negF c := rfl
      rw [hnum] at hst
      rw [hnum'] at hst'
      clear hnum hnum'
      by_cases hc0 : c > 0
      · have p1 : posF c = c := if_pos hc0
        have p2 : negF c = 0 := if_pos hc0
        go_wp2_with go_in
        go_roundw
        case rel =>
          refine ⟨_, _, _, cnt', rfl, rfl, wrap64_wf _, hwd, ?_, ?_, hrg1, hgw1⟩
          · rw [hst, p1] at hs
            unfold wrap64
            omega
          · rw [hst', p2] at hs'
            omega
        case measure => rw [hrg1.left_eq, hrg.left_eq]; exact hlt
      · have p1 : posF c = 0 := if_neg hc0
        have p2 : negF c = -c := if_neg hc0
        go_wp2_with go_in
        go_roundw
        case rel =>
          refine ⟨_, _, _, cnt', rfl, rfl, hwu, wrap64_wf _, ?_, ?_, hrg1, hgw1⟩
          · rw [hst, p1] at hs
            omega
          · rw [hst', p2] at hs'
            unfold wrap64
            omega
        case measure => rw [hrg1.left_eq, hrg.left_eq]; exact hlt
end Go.Bk

namespace Go.Bk
open Go Go.Maps Go.RowKit Go.Proofs
set_option linter.unusedVariables false

theorem own_is (e : En) (w : World) : Calls Try.prog 15 #[.agg e.cells.toArray] w fun ee w' => ee = .returned (.agg e.cells.toArray) ∧ Below w.heap.size w w' := by
  show Calls Try.prog 15 #[.agg #[.int .i64 e.dy, .string e.db, .string e.cr, .int .i64 e.am, .string e.me]] w fun ee w' => ee = .returned (.agg #[.int .i64 e.dy, .string e.db, .string e.cr, .int .i64 e.am, .string e.me]) ∧ Below w.heap.size w w'
  go_enter Try.func15, Try.ntmps15
  go_wp2
  refine bodyPost_ret (v := .agg #[.int .i64 e.dy, .string e.db, .string e.cr, .int .i64 e.am, .string e.me]) (by simp [results, Try.results15, go_sem]) rfl ⟨rfl, ?_⟩
  exact ((Below.refl w.heap.size w).alloc (Nat.le_refl _) _).alloc (by simp) _

theorem q42 (dy am : Int) (db cr me : ByteArray) (w : World) : (binOp .neq 42 (.agg #[.int .i64 dy, .string db, .string cr, .int .i64 am, .string me]) (.agg #[.int .i64 dy, .string db, .string cr, .int .i64 am, .string me])).run Try.prog w = .ok (.bool false) w := by
  have hu : Try.prog.fieldsOf 42 = (match Try.prog.underlying 42 with | some (.struct fs) => fs | _ => #[]) := by rw [Try.underlying42]; simp [Program.fieldsOf, Try.underlying42]
  rw [Try.underlying42] at hu
  rw [run_neq_struct, run_equalIn_struct w 9999 42 _ _ (by rw [hu]; exact Try.underlying42) (by kernel_rfl), hu]
  simp [Op.eqFields, part, Try.underlying3, Try.underlying2, Try.underlying9, Result.andThen_ok, go_sem]
end Go.Bk
