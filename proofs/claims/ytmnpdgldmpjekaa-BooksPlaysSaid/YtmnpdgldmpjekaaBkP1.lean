/- BkP1: sums over a map's entries. -/
import Derived.Maps.OwnSet
import Derived.Maps.Range
import Derived.Sort.KeysCollected
import Derived.WideShapes
namespace Go.Bk
open Go Go.Maps
set_option linter.unusedVariables false
variable {H : Type}

/-- An element's number. -/
def num : DataW H → Int
  | .lit (.int _ a) => a
  | _ => 0
def sumE : List (Lit × DataW H) → Int
  | [] => 0
  | p :: l => num p.2 + sumE l
/-- All of a map's numbers together. -/
def tot : DataW H → Int
  | .map es => sumE es
  | _ => 0

theorem sumE_perm {l m : List (Lit × DataW H)} (h : l.Perm m) : sumE l = sumE m := by
  induction h with
  | nil => rfl
  | cons x _ ih => simp only [sumE, ih]
  | swap x y l => simp only [sumE]; omega
  | trans _ _ a b => exact a.trans b

theorem filter_none {es : List (Lit × DataW H)} {k : Lit} (h : ∀ q ∈ es, q.1 ≠ k) : es.filter (fun p => !p.1.sameKey k) = es :=
  List.filter_eq_self.2 fun q hq => by
    cases e : q.1.sameKey k with
    | false => rfl
    | true => exact absurd (WideAt.sameKey_eq e) (h q hq)

/-- What is taken out, and what is left. -/
theorem sum_split {k : Lit} (hk : WideAt.IsKeyLit k) : ∀ {es : List (Lit × DataW H)}, es.Pairwise (fun p q => p.1 ≠ q.1) →
    sumE es = num ((DataW.map es).atKey k (.lit (.int .i64 0))) + sumE (es.filter fun p => !p.1.sameKey k) := by
  intro es
  induction es with
  | nil => intro _; simp [sumE, DataW.atKey, num]
  | cons p l ih =>
    intro hp
    rw [List.pairwise_cons] at hp
    by_cases e : p.1 = k
    · subst e
      have hs := WideAt.sameKey_self hk
      have hf : l.filter (fun q => !q.1.sameKey p.1) = l := filter_none fun q hq e => hp.1 q hq e.symm
      simp [sumE, DataW.atKey, hs, hf]
    · have hs : p.1.sameKey k = false := by
        cases h : p.1.sameKey k with
        | false => rfl
        | true => exact absurd (WideAt.sameKey_eq h) e
      have h := ih hp.2
      have ha : (DataW.map (p :: l)).atKey k (.lit (.int .i64 0)) = (DataW.map l).atKey k (.lit (.int .i64 0)) := by simp [DataW.atKey, hs]
      rw [ha, List.filter_cons, if_pos (by simp [hs])]
      simp only [sumE]
      omega

theorem tot_put {D : DataW H} (hD : Tidy D) {k : Lit} (hk : WideAt.IsKeyLit k) (d : DataW H) : tot (D.put k d) = num d + tot D - num (D.atKey k (.lit (.int .i64 0))) := by
  obtain ⟨es, rfl, hp⟩ := hD
  have h := sum_split (H := H) hk hp
  show sumE (DataW.insert (k, d) (es.filter fun p => !p.1.sameKey k)) = _
  rw [sumE_perm (WideShapes.insert_perm _ _)]
  show num d + sumE (es.filter fun p => !p.1.sameKey k) = num d + sumE es - _
  omega

/-- What is still to come. -/
def rest (D : DataW H) (left : Lit → Bool) : Int :=
  match D with
  | .map es => sumE (es.filter fun p => left p.1)
  | _ => 0

theorem rest_none (D : DataW H) {left : Lit → Bool} (h : ∀ k, left k = false) : rest D left = 0 := by
  unfold rest
  split
  · rename_i es
    rw [List.filter_eq_nil_iff.2 (fun p _ => by simp [h])]
    rfl
  · rfl

theorem rest_all {es : List (Lit × DataW H)} (hk : ∀ p ∈ es, WideAt.IsKeyLit p.1) : rest (.map es) (Maps.has (.map es)) = tot (.map es) := by
  show sumE (es.filter fun p => Maps.has (.map es) p.1) = sumE es
  rw [List.filter_eq_self.2 fun p hp => ?_]
  exact List.any_eq_true.2 ⟨p, hp, WideAt.sameKey_self (hk p hp)⟩

theorem rest_step {D : DataW H} (hD : Tidy D) {left : Lit → Bool} {k : Lit} (hk : WideAt.IsKeyLit k) (hl : left k = true) {y : DataW H} (hat : ∀ z, D.atKey k z = y) :
    rest D left = num y + rest D (fun z => left z && !z.sameKey k) := by
  obtain ⟨es, rfl, hp⟩ := hD
  have h := sum_split (H := H) hk (es := es.filter fun p => left p.1) (hp.sublist List.filter_sublist)
  have ha : (DataW.map (es.filter fun p => left p.1)).atKey k (.lit (.int .i64 0)) = y := by
    rw [← hat (.lit (.int .i64 0))]
    have : ∀ l : List (Lit × DataW H), (l.filter fun p => left p.1).find? (fun p => p.1.sameKey k) = l.find? (fun p => p.1.sameKey k) :=
      fun l => Maps.find_filter_keep (f := fun p => p.1.sameKey k) (g := fun p => left p.1) (fun p hp => by rw [WideAt.sameKey_eq hp]; exact hl) l
    simp only [DataW.atKey, this]
  rw [ha] at h
  show sumE _ = _
  rw [h]
  show _ = num y + sumE (es.filter fun p => left p.1 && !p.1.sameKey k)
  rw [List.filter_filter]
  congr 3
  funext p
  exact Bool.and_comm _ _

/-- Over all its keys. -/
def sumK (D : DataW H) : List (List UInt8) → Int
  | [] => 0
  | x :: l => num (D.atKey (.string x) (.lit (.int .i64 0))) + sumK D l

theorem sumK_perm (D : DataW H) {l m : List (List UInt8)} (h : l.Perm m) : sumK D l = sumK D m := by
  induction h with
  | nil => rfl
  | cons x _ ih => simp only [sumK, ih]
  | swap x y l => simp only [sumK]; omega
  | trans _ _ a b => exact a.trans b

theorem sumK_all {es : List (Lit × DataW H)} (hp : es.Pairwise (fun p q => p.1 ≠ q.1)) (hs : ∀ p ∈ es, ∃ x, p.1 = .string x) : sumK (.map es) (strKeys (.map es)) = tot (.map es) := by
  show sumK (.map es) (es.map fun p => strOf p.1) = sumE es
  have key : ∀ l : List (Lit × DataW H), (∀ p ∈ l, p ∈ es) → sumK (.map es) (l.map fun p => strOf p.1) = sumE l := by
    intro l
    induction l with
    | nil => intro _; rfl
    | cons p l ih =>
      intro hl
      obtain ⟨x, hx⟩ := hs p (hl p (List.mem_cons_self ..))
      simp only [List.map_cons, sumK, sumE]
      rw [ih fun q hq => hl q (List.mem_cons_of_mem _ hq)]
      congr 2
      rw [hx]
      refine WideAt.atKey_mem _ trivial hp ?_
      show ((Lit.string x), p.2) ∈ es
      rw [← hx]
      exact hl p (List.mem_cons_self ..)
  exact key es fun _ h => h
end Go.Bk
