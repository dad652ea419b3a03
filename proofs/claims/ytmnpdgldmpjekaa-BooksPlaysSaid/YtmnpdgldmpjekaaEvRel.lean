/- What it says that the interpreter's values and heap stand for the model's. -/
import Derived.Test.YtmnpdgldmpjekaaEvDef
import Derived.Below
namespace Go.EvM
open Go.RowKit

/-- Where a block of the interpreter's lies: the model's block, the cell at which it begins, its cells, the cells of an element, how many elements there is room for behind it. -/
structure BI where
  rb : Nat
  d : Nat
  n : Nat
  z : Nat
  xe : Nat

abbrev Mu := Nat → Option BI

mutual
inductive VR (μ : Mu) : Value → Value → Prop
  | bool (b : Bool) : VR μ (.bool b) (.bool b)
  | int (k : IntKind) (n : Int) : VR μ (.int k n) (.int k n)
  | string (s : ByteArray) : VR μ (.string s) (.string s)
  | nilp : VR μ (.pointer none) (.pointer none)
  | ptr {b : Nat} {i : BI} (off : Nat) : μ b = some i → VR μ (.pointer (some ⟨b, off, none⟩)) (.pointer (some ⟨i.rb, i.d + off, none⟩))
  | nils : VR μ (.slice none 0 0) (.slice none 0 0)
  | slice {b : Nat} {i : BI} (off len cap x : Nat) (ra : Addr) : μ b = some i → len ≤ cap → (x = 0 ∨ (x ≤ i.xe ∧ off + cap * i.z = i.n)) → (ra = ⟨i.rb, i.d + off, none⟩ ∨ (cap = 0 ∧ x = 0)) →
      VR μ (.slice (some ⟨b, off, none⟩) len cap) (.slice (some ra) len (cap + x))
  | nilm : VR μ (.map none) (.map none)
  | map {b : Nat} {i : BI} : μ b = some i → VR μ (.map (some b)) (.map (some i.rb))
  | nilc : VR μ (.chan none) (.chan none)
  | func (f : FuncId) {a a' c c' : List Value} : VRs μ a a' → VRs μ c c' → VR μ (.func (.func f) ⟨a⟩ ⟨c⟩) (.func (.func f) ⟨a'⟩ ⟨c'⟩)
  | nilFunc : VR μ .nilFunc .nilFunc
  | iface (t : TypeId) {v v' : Value} : VR μ v v' → VR μ (.iface t v) (.iface t v')
  | nilIface : VR μ .nilIface .nilIface
  | agg {l l' : List Value} : VRs μ l l' → (∀ x ∈ l, oneB x = true) → VR μ (.agg ⟨l⟩) (.agg ⟨l'⟩)
  | tuple {l l' : List Value} : VRs μ l l' → VR μ (.tuple ⟨l⟩) (.tuple ⟨l'⟩)
inductive VRs (μ : Mu) : List Value → List Value → Prop
  | nil : VRs μ [] []
  | cons {a a' : Value} {l l' : List Value} : VR μ a a' → VRs μ l l' → VRs μ (a :: l) (a' :: l')
end

/-- More is told. -/
def Le (μ μ' : Mu) : Prop := ∀ b i, μ b = some i → μ' b = some i

theorem Le.refl (μ : Mu) : Le μ μ := fun _ _ h => h
theorem Le.trans {a b c : Mu} (h : Le a b) (k : Le b c) : Le a c := fun x i e => k x i (h x i e)

mutual
theorem VR.mono {μ μ' : Mu} (hl : Le μ μ') : ∀ {a v : Value}, VR μ a v → VR μ' a v
  | _, _, .bool b => .bool b
  | _, _, .int k n => .int k n
  | _, _, .string s => .string s
  | _, _, .nilp => .nilp
  | _, _, .ptr off h => .ptr off (hl _ _ h)
  | _, _, .nils => .nils
  | _, _, .slice off len cap x ra h g k m => .slice off len cap x ra (hl _ _ h) g k m
  | _, _, .nilm => .nilm
  | _, _, .map h => .map (hl _ _ h)
  | _, _, .nilc => .nilc
  | _, _, .func f ha hc => .func f (VRs.mono hl ha) (VRs.mono hl hc)
  | _, _, .nilFunc => .nilFunc
  | _, _, .iface t h => .iface t (VR.mono hl h)
  | _, _, .nilIface => .nilIface
  | _, _, .agg h g => .agg (VRs.mono hl h) g
  | _, _, .tuple h => .tuple (VRs.mono hl h)
theorem VRs.mono {μ μ' : Mu} (hl : Le μ μ') : ∀ {a v : List Value}, VRs μ a v → VRs μ' a v
  | _, _, .nil => .nil
  | _, _, .cons h t => .cons (VR.mono hl h) (VRs.mono hl t)
end

theorem VR.one {μ : Mu} {a v : Value} (h : VR μ a v) : oneB v = oneB a := by cases h <;> rfl

theorem VRs.length {μ : Mu} : ∀ {l l' : List Value}, VRs μ l l' → l'.length = l.length
  | _, _, .nil => rfl
  | _, _, .cons _ t => by simp [VRs.length t]

theorem VRs.get {μ : Mu} : ∀ {l l' : List Value}, VRs μ l l' → ∀ {j : Nat} {a : Value}, l[j]? = some a → ∃ v, l'[j]? = some v ∧ VR μ a v
  | _, _, .nil, _, _, h => by simp at h
  | _, _, .cons (a' := a') h t, 0, _, e => by simp at e; subst e; exact ⟨a', by simp, h⟩
  | _, _, .cons h t, j + 1, _, e => by simpa using VRs.get t (j := j) (by simpa using e)

theorem VRs.get' {μ : Mu} : ∀ {l l' : List Value}, VRs μ l l' → ∀ {j : Nat} {v : Value}, l'[j]? = some v → ∃ a, l[j]? = some a ∧ VR μ a v
  | _, _, .nil, _, _, h => by simp at h
  | _, _, .cons (a := a) h t, 0, _, e => by simp at e; subst e; exact ⟨a, by simp, h⟩
  | _, _, .cons h t, j + 1, _, e => by simpa using VRs.get' t (j := j) (by simpa using e)

theorem VRs.mk {μ : Mu} : ∀ {l l' : List Value}, l'.length = l.length → (∀ (j : Nat) (a v : Value), l[j]? = some a → l'[j]? = some v → VR μ a v) → VRs μ l l'
  | [], [], _, _ => .nil
  | [], _ :: _, h, _ => by simp at h
  | _ :: _, [], h, _ => by simp at h
  | a :: l, v :: l', h, g => .cons (g 0 a v (by simp) (by simp)) (VRs.mk (by simpa using h) (fun j x y hx hy => g (j + 1) x y (by simpa using hx) (by simpa using hy)))

theorem VRs.append {μ : Mu} : ∀ {a a' b b' : List Value}, VRs μ a a' → VRs μ b b' → VRs μ (a ++ b) (a' ++ b')
  | _, _, _, _, .nil, h => h
  | _, _, _, _, .cons h t, k => .cons h (VRs.append t k)

theorem VRs.drop {μ : Mu} : ∀ {a a' : List Value} (n : Nat), VRs μ a a' → VRs μ (a.drop n) (a'.drop n)
  | _, _, 0, h => by simpa using h
  | _, _, _ + 1, .nil => .nil
  | _, _, n + 1, .cons _ t => by simpa using VRs.drop n t
theorem VRs.take {μ : Mu} : ∀ {a a' : List Value} (n : Nat), VRs μ a a' → VRs μ (a.take n) (a'.take n)
  | _, _, 0, _ => by simpa using VRs.nil
  | _, _, _ + 1, .nil => .nil
  | _, _, n + 1, .cons h t => by simpa using VRs.cons h (VRs.take n t)

theorem VRs.map {μ : Mu} {α : Type} {f g : α → Value} : ∀ {l : List α}, (∀ x ∈ l, VR μ (f x) (g x)) → VRs μ (l.map f) (l.map g)
  | [], _ => .nil
  | x :: l, h => .cons (h x (by simp)) (VRs.map (fun y hy => h y (by simp [hy])))

mutual
/-- A constant without an address stands for itself. -/
theorem plain_VR (μ : Mu) : ∀ (k : Nat) (v : Value), plainV k v = true → VR μ v v
  | 0, _, h => by simp [plainV] at h
  | k + 1, v, h => by
    cases v with
    | bool b => exact .bool b
    | int k n => exact .int k n
    | float k b => simp [plainV] at h
    | complex k a b => simp [plainV] at h
    | string s => exact .string s
    | pointer a => cases a with
      | none => exact .nilp
      | some a => simp [plainV] at h
    | slice a l c => cases a with
      | none =>
        simp [plainV] at h
        obtain ⟨rfl, rfl⟩ := h
        exact .nils
      | some a => simp [plainV] at h
    | map r => cases r with
      | none => exact .nilm
      | some a => simp [plainV] at h
    | chan r => cases r with
      | none => exact .nilc
      | some a => simp [plainV] at h
    | func fn a c => cases fn with
      | func f =>
        obtain ⟨a⟩ := a; obtain ⟨c⟩ := c
        simp [plainV] at h
        obtain ⟨rfl, rfl⟩ := h
        exact .func f .nil .nil
      | _ => simp [plainV] at h
    | nilFunc => exact .nilFunc
    | iface t v => simp [plainV] at h
    | nilIface => exact .nilIface
    | agg cs =>
      obtain ⟨cs⟩ := cs
      have h' : cs.all (fun x => plainV k x && oneB x) = true := by simpa [plainV] using h
      exact .agg (plain_VRs μ k cs (fun x hx => by have := List.all_eq_true.1 h' x hx; simp at this; exact this.1)) (fun x hx => by have := List.all_eq_true.1 h' x hx; simp at this; exact this.2)
    | tuple cs =>
      obtain ⟨cs⟩ := cs
      have h' : cs.all (plainV k) = true := by simpa [plainV] using h
      exact .tuple (plain_VRs μ k cs (fun x hx => List.all_eq_true.1 h' x hx))
theorem plain_VRs (μ : Mu) : ∀ (k : Nat) (l : List Value), (∀ x ∈ l, plainV k x = true) → VRs μ l l
  | _, [], _ => .nil
  | k, x :: l, h => .cons (plain_VR μ k x (h x (by simp))) (plain_VRs μ k l (fun y hy => h y (by simp [hy])))
end

/-! ### The heap -/
/-- May be written? -/
def Ob.wr : Ob → Prop
  | .cells _ _ _ _ ro => ro = false
  | .map _ _ => True

def EntR (μ : Mu) : List (Value × Value × Nat) → List MapEntry → Prop
  | [], [] => True
  | (k, v, b) :: es, e :: r => VR μ k e.key ∧ VR μ v e.val ∧ e.born = b ∧ EntR μ es r
  | _, _ => False

def RelOb (μ : Mu) (N : Nat) (w : World) (i : BI) : Ob → Prop
  | .cells c n z tight ro => ∃ cs e fz, w.heap[i.rb]? = some (.cells cs e fz) ∧ i.n = n ∧ i.z = z ∧ (tight = true → i.xe = 0 ∧ i.d = 0) ∧ i.d + n + i.xe * z ≤ cs.size ∧
      (∀ j, n ≤ j → c.get j = none) ∧
      (∀ j, j < n → ∃ a v, c.get j = some a ∧ cs[i.d + j]? = some v ∧ VR μ a v ∧ oneB a = true) ∧
      (ro = true → i.rb < N) ∧ (ro = false → N ≤ i.rb ∧ ∀ j, j < i.d + n + i.xe * z → ¬ (fz.1 ≤ j ∧ j < fz.2))
  | .map es clock => ∃ r, w.heap[i.rb]? = some (.map r clock) ∧ N ≤ i.rb ∧ EntR μ es r.toList

structure Rel (W : World) (μ : Mu) (h : Hp) (w : World) : Prop where
  dom : ∀ b i, μ b = some i → b < h.n
  ob : ∀ b i o, μ b = some i → h.b.get b = some o → RelOb μ W.heap.size w i o
  inj : ∀ b c i j o p, μ b = some i → μ c = some j → h.b.get b = some o → h.b.get c = some p → o.wr → p.wr → i.rb = j.rb → b = c
  below : Below W.heap.size W w

theorem EntR.mono {μ μ' : Mu} (hl : Le μ μ') : ∀ {es : List (Value × Value × Nat)} {r : List MapEntry}, EntR μ es r → EntR μ' es r
  | [], [], _ => trivial
  | (_, _, _) :: _, _ :: _, ⟨h1, h2, h3, h4⟩ => ⟨h1.mono hl, h2.mono hl, h3, EntR.mono hl h4⟩
  | [], _ :: _, h => h.elim
  | _ :: _, [], h => h.elim

/-- What an object's relation asks of the world: its own block alone. -/
theorem RelOb.move {μ μ' : Mu} {N : Nat} {w w' : World} {i : BI} {o : Ob} (h : RelOb μ N w i o) (hl : Le μ μ') (hw : w'.heap[i.rb]? = w.heap[i.rb]?) : RelOb μ' N w' i o := by
  cases o with
  | cells c n z tight ro =>
    obtain ⟨cs, e, fz, h1, h2, h3, h4, h5, h6, h7, h8, h9⟩ := h
    exact ⟨cs, e, fz, hw.trans h1, h2, h3, h4, h5, h6, fun j hj => let ⟨a, v, p, q, r, s⟩ := h7 j hj; ⟨a, v, p, q, r.mono hl, s⟩, h8, h9⟩
  | map es clock =>
    obtain ⟨r, h1, h2, h3⟩ := h
    exact ⟨r, hw.trans h1, h2, h3.mono hl⟩

theorem RelOb.old {μ : Mu} {N : Nat} {w : World} {i : BI} {o : Ob} (h : RelOb μ N w i o) : i.rb < w.heap.size := by
  cases o with
  | cells c n z tight ro => obtain ⟨cs, e, fz, h1, _⟩ := h; exact (Array.getElem?_eq_some_iff.1 h1).1
  | map es clock => obtain ⟨r, h1, _⟩ := h; exact (Array.getElem?_eq_some_iff.1 h1).1

/-- New: told alone of what is not below n. -/
structure Ext (n : Nat) (μ μ' : Mu) : Prop where
  le : Le μ μ'
  new : ∀ b i, μ' b = some i → μ b = some i ∨ n ≤ b

theorem Ext.refl (n : Nat) (μ : Mu) : Ext n μ μ := ⟨Le.refl μ, fun _ _ h => .inl h⟩
theorem Ext.trans {n m : Nat} {a b c : Mu} (h : Ext n a b) (k : Ext m b c) (hm : n ≤ m) : Ext n a c :=
  ⟨h.le.trans k.le, fun x i e => (k.new x i e).elim (fun e => h.new x i e) (fun e => .inr (Nat.le_trans hm e))⟩

/-- A draw changes nothing. -/
theorem Rel.drew {W : World} {μ : Mu} {h : Hp} {w : World} (R : Rel W μ h w) : Rel W μ h { w with drawn := w.drawn + 1 } :=
  ⟨R.dom, fun b i o h1 h2 => (R.ob b i o h1 h2).move (Le.refl _) rfl, R.inj, ⟨R.below.os, R.below.tape, R.below.output, R.below.size, R.below.block⟩⟩

end Go.EvM
