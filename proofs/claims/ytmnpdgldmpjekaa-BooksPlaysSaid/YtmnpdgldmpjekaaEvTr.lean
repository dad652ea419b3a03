/- Tries with four ways, made for the kernel's own evaluation: reading and writing by a path that is reckoned once. -/
namespace Go.EvM

inductive D4 where
  | w0 | w1 | w2 | w3
  deriving DecidableEq

inductive Tr (α : Type) where
  | nil
  | nd (v : Option α) (t0 t1 t2 t3 : Tr α)

namespace Tr
variable {α : Type}

def dig : Nat → D4
  | 0 => .w0
  | 1 => .w1
  | 2 => .w2
  | _ => .w3

/-- The path of n: the digits of n to the base four without nought. The first argument bounds its length. -/
noncomputable def pathF (k : Nat) : Nat → List D4 :=
  Nat.rec (motive := fun _ => Nat → List D4) (fun _ => [])
    (fun _ ih n => Nat.rec (motive := fun _ => List D4) [] (fun m _ => dig (Nat.mod m 4) :: ih (Nat.div m 4)) n) k
noncomputable def path (n : Nat) : List D4 := pathF n n

noncomputable def sing (x : α) (p : List D4) : Tr α :=
  List.rec (motive := fun _ => Tr α) (.nd (some x) .nil .nil .nil .nil)
    (fun d _ ih => D4.rec (motive := fun _ => Tr α) (.nd none ih .nil .nil .nil) (.nd none .nil ih .nil .nil) (.nd none .nil .nil ih .nil) (.nd none .nil .nil .nil ih) d) p

noncomputable def getP (p : List D4) : Tr α → Option α :=
  List.rec (motive := fun _ => Tr α → Option α)
    (fun t => Tr.rec (motive := fun _ => Option α) none (fun v _ _ _ _ _ _ _ _ => v) t)
    (fun d _ ih t => Tr.rec (motive := fun _ => Option α) none (fun _ a b c e _ _ _ _ => D4.rec (motive := fun _ => Option α) (ih a) (ih b) (ih c) (ih e) d) t) p

noncomputable def putP (x : α) (p : List D4) : Tr α → Tr α :=
  List.rec (motive := fun _ => Tr α → Tr α)
    (fun t => Tr.rec (motive := fun _ => Tr α) (.nd (some x) .nil .nil .nil .nil) (fun _ a b c e _ _ _ _ => .nd (some x) a b c e) t)
    (fun d q ih t => Tr.rec (motive := fun _ => Tr α) (sing x (d :: q))
      (fun v a b c e _ _ _ _ => D4.rec (motive := fun _ => Tr α) (.nd v (ih a) b c e) (.nd v a (ih b) c e) (.nd v a b (ih c) e) (.nd v a b c (ih e)) d) t) p

noncomputable def delP (p : List D4) : Tr α → Tr α :=
  List.rec (motive := fun _ => Tr α → Tr α)
    (fun t => Tr.rec (motive := fun _ => Tr α) .nil (fun _ a b c e _ _ _ _ => .nd none a b c e) t)
    (fun d _ ih t => Tr.rec (motive := fun _ => Tr α) .nil
      (fun v a b c e _ _ _ _ => D4.rec (motive := fun _ => Tr α) (.nd v (ih a) b c e) (.nd v a (ih b) c e) (.nd v a b (ih c) e) (.nd v a b c (ih e)) d) t) p

noncomputable def get (t : Tr α) (n : Nat) : Option α := getP (path n) t
noncomputable def put (t : Tr α) (n : Nat) (x : α) : Tr α := putP x (path n) t
noncomputable def del (t : Tr α) (n : Nat) : Tr α := delP (path n) t

theorem getP_nil (p : List D4) : getP p (.nil : Tr α) = none := by cases p <;> rfl

theorem getP_sing (x : α) : ∀ (p q : List D4), getP q (sing x p) = if q = p then some x else none := by
  intro p
  induction p with
  | nil => intro q; cases q with
    | nil => rfl
    | cons d q => cases d <;> exact getP_nil q
  | cons d p ih =>
    intro q
    cases q with
    | nil => cases d <;> rfl
    | cons e q =>
      have h := ih q
      cases d <;> cases e <;> first | (simp only [List.cons.injEq, true_and]; exact h) | (simp; exact getP_nil q)

theorem getP_putP (x : α) : ∀ (p q : List D4) (t : Tr α), getP q (putP x p t) = if q = p then some x else getP q t := by
  intro p
  induction p with
  | nil => intro q t; cases t <;> cases q with
    | nil => rfl
    | cons d q => cases d <;> simp [putP, getP] <;> exact getP_nil q
  | cons d p ih =>
    intro q t
    cases t with
    | nil => rw [getP_nil]; exact getP_sing x (d :: p) q
    | nd v a b c e =>
      cases q with
      | nil => cases d <;> rfl
      | cons f q => cases d <;> cases f <;> first | (simp only [List.cons.injEq, true_and]; exact ih q _) | (simp; rfl)

theorem getP_delP : ∀ (p q : List D4) (t : Tr α), getP q (delP p t) = if q = p then none else getP q t := by
  intro p
  induction p with
  | nil => intro q t; cases t <;> cases q with
    | nil => rfl
    | cons d q => cases d <;> rfl
  | cons d p ih =>
    intro q t
    cases t with
    | nil => show getP q .nil = _; rw [getP_nil]; simp
    | nd v a b c e =>
      cases q with
      | nil => cases d <;> rfl
      | cons f q => cases d <;> cases f <;> first | (simp only [List.cons.injEq, true_and]; exact ih q _) | (simp; rfl)

theorem dig_inj : ∀ {m n : Nat}, m < 4 → n < 4 → dig m = dig n → m = n
  | 0, 0, _, _, _ | 1, 1, _, _, _ | 2, 2, _, _, _ | 3, 3, _, _, _ => rfl
  | m + 4, _, h, _, _ => absurd h (by omega)
  | _, n + 4, _, h, _ => absurd h (by omega)
  | 0, 1, _, _, h | 0, 2, _, _, h | 0, 3, _, _, h | 1, 0, _, _, h | 1, 2, _, _, h | 1, 3, _, _, h | 2, 0, _, _, h | 2, 1, _, _, h | 2, 3, _, _, h
  | 3, 0, _, _, h | 3, 1, _, _, h | 3, 2, _, _, h => nomatch h

theorem pathF_inj : ∀ (k l m n : Nat), m ≤ k → n ≤ l → pathF k m = pathF l n → m = n := by
  intro k
  induction k with
  | zero =>
    intro l m n hm hn h
    obtain rfl : m = 0 := by omega
    cases n with
    | zero => rfl
    | succ n => cases l with
      | zero => omega
      | succ l => exact nomatch h
  | succ k ih =>
    intro l m n hm hn h
    cases l with
    | zero =>
      obtain rfl : n = 0 := by omega
      cases m with
      | zero => rfl
      | succ m => exact nomatch h
    | succ l =>
      cases m with
      | zero => cases n with
        | zero => rfl
        | succ n => exact nomatch h
      | succ m => cases n with
        | zero => exact nomatch h
        | succ n =>
          have h' : dig (m % 4) :: pathF k (m / 4) = dig (n % 4) :: pathF l (n / 4) := h
          rw [List.cons.injEq] at h'
          have h1 := dig_inj (Nat.mod_lt _ (by omega)) (Nat.mod_lt _ (by omega)) h'.1
          have h2 := ih l (m / 4) (n / 4) (by omega) (by omega) h'.2
          omega

theorem path_inj {m n : Nat} (h : path m = path n) : m = n := pathF_inj _ _ _ _ (Nat.le_refl _) (Nat.le_refl _) h
theorem path_iff {m n : Nat} : path m = path n ↔ m = n := ⟨path_inj, fun h => by rw [h]⟩

theorem get_nil (n : Nat) : (nil : Tr α).get n = none := getP_nil _
theorem get_put (t : Tr α) (n m : Nat) (x : α) : (t.put n x).get m = if m = n then some x else t.get m := by
  rw [get, put, getP_putP]; simp only [path_iff]; rfl
theorem get_del (t : Tr α) (n m : Nat) : (t.del n).get m = if m = n then none else t.get m := by
  rw [get, del, getP_delP]; simp only [path_iff]; rfl
theorem get_put_eq (t : Tr α) (n : Nat) (x : α) : (t.put n x).get n = some x := by rw [get_put, if_pos rfl]
theorem get_put_ne (t : Tr α) {n m : Nat} (x : α) (h : m ≠ n) : (t.put n x).get m = t.get m := by rw [get_put, if_neg h]

/-- A list laid from place i on. -/
noncomputable def putL (l : List α) : Nat → Tr α → Tr α :=
  List.rec (motive := fun _ => Nat → Tr α → Tr α) (fun _ t => t) (fun x _ ih i t => ih (Nat.succ i) (t.put i x)) l
noncomputable def ofL (l : List α) : Tr α := putL l 0 .nil

theorem putL_nil (i : Nat) (t : Tr α) : putL [] i t = t := rfl
theorem putL_cons (x : α) (l : List α) (i : Nat) (t : Tr α) : putL (x :: l) i t = putL l (i + 1) (t.put i x) := rfl

theorem get_putL : ∀ (l : List α) (i : Nat) (t : Tr α) (m : Nat), (putL l i t).get m = if i ≤ m ∧ m < i + l.length then l[m - i]? else t.get m := by
  intro l
  induction l with
  | nil => intro i t m; rw [putL_nil, if_neg (by simp)]
  | cons x l ih =>
    intro i t m
    rw [putL_cons, ih, get_put]
    by_cases h1 : m = i
    · subst h1
      rw [if_neg (by omega), if_pos rfl, if_pos (by simp)]
      simp
    · by_cases h2 : i + 1 ≤ m ∧ m < i + 1 + l.length
      · rw [if_pos h2, if_pos (by simp; omega)]
        obtain ⟨k, rfl⟩ : ∃ k, m = i + (k + 1) := ⟨m - i - 1, by omega⟩
        rw [show i + (k + 1) - (i + 1) = k from by omega, show i + (k + 1) - i = k + 1 from by omega, List.getElem?_cons_succ]
      · rw [if_neg h2, if_neg h1, if_neg (by simp; omega)]

theorem get_ofL (l : List α) (m : Nat) : (ofL l).get m = l[m]? := by
  rw [ofL, get_putL, get_nil]
  by_cases h : m < l.length
  · rw [if_pos (by omega), Nat.sub_zero]
  · rw [if_neg (by omega)]; exact (List.getElem?_eq_none (by omega)).symm

/-- n values from place i on, if all are there. -/
noncomputable def getL (t : Tr α) (n : Nat) : Nat → Option (List α) :=
  Nat.rec (motive := fun _ => Nat → Option (List α)) (fun _ => some [])
    (fun _ ih i => Option.rec (motive := fun _ => Option (List α)) none (fun x => Option.rec (motive := fun _ => Option (List α)) none (fun l => some (x :: l)) (ih (Nat.succ i))) (t.get i)) n

theorem getL_zero (t : Tr α) (i : Nat) : t.getL 0 i = some [] := rfl
theorem getL_succ (t : Tr α) (n i : Nat) : t.getL (n + 1) i = match t.get i with
    | some x => match t.getL n (i + 1) with
      | some l => some (x :: l)
      | none => none
    | none => none := by
  show Option.rec (motive := fun _ => Option (List α)) none (fun x => Option.rec (motive := fun _ => Option (List α)) none (fun l => some (x :: l)) (t.getL n (i + 1))) (t.get i) = _
  cases t.get i with
  | none => rfl
  | some x => cases t.getL n (i + 1) <;> rfl

theorem getL_spec (t : Tr α) : ∀ (n i : Nat) (l : List α), t.getL n i = some l → l.length = n ∧ ∀ j, j < n → t.get (i + j) = l[j]? := by
  intro n
  induction n with
  | zero => intro i l h; rw [getL_zero] at h; cases h; exact ⟨rfl, fun j hj => absurd hj (by omega)⟩
  | succ n ih =>
    intro i l h
    rw [getL_succ] at h
    cases hx : t.get i with
    | none => rw [hx] at h; cases h
    | some x =>
      rw [hx] at h
      cases hl : t.getL n (i + 1) with
      | none => rw [hl] at h; cases h
      | some l' =>
        rw [hl] at h; cases h
        obtain ⟨h1, h2⟩ := ih _ _ hl
        refine ⟨by simp [h1], fun j hj => ?_⟩
        cases j with
        | zero => simpa using hx
        | succ j => rw [show i + (j + 1) = i + 1 + j from by omega, h2 j (by omega)]; rfl

theorem getL_mk (t : Tr α) : ∀ (n i : Nat) (l : List α), l.length = n → (∀ j, j < n → t.get (i + j) = l[j]?) → t.getL n i = some l := by
  intro n
  induction n with
  | zero => intro i l h _; obtain rfl := List.eq_nil_of_length_eq_zero h; rfl
  | succ n ih =>
    intro i l h g
    cases l with
    | nil => cases h
    | cons x l =>
      rw [getL_succ]
      have h0 : t.get i = some x := by have := g 0 (by omega); simpa using this
      rw [h0, ih (i + 1) l (by simpa using h) (fun j hj => by have := g (j + 1) (by omega); rw [show i + 1 + j = i + (j + 1) from by omega, this]; rfl)]

end Tr
end Go.EvM
