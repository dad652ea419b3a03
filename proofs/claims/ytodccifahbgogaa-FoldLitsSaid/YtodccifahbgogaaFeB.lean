/- What it says that the interpreter's values and heap stand for the model's. -/
import Derived.Test.YtodccifahbgogaaFeA
import Derived.Below
import Derived.Laws.IdiomCopy
import Derived.Laws.Cells
import Derived.Laws.Slices
import Derived.IntWalk
import Derived.Laws.Strings
import Derived.Laws.Bits64
import Derived.Laws.Tables
import Derived.Laws.BytesString
import Derived.MapKept
import Derived.Laws.StructEq
import Derived.Lib.UnsafeStr
import Derived.Conc.SmallLaws
set_option linter.unusedVariables false
set_option linter.unusedSectionVars false
set_option linter.unusedSimpArgs false
namespace Go.EvM
open Go.RowKit
structure BI where
  rb : Nat
  d : Nat
  n : Nat
  z : Nat
  xe : Nat
  lp : Loop
abbrev Mu := Nat → Option BI
class Unk where
  Z : List Int
def dotL : List Int → List Int → Int
  | c :: cs, z :: zs => c * z + dotL cs zs
  | _, _ => 0
def dotF [Unk] : List Int → Int
  | c :: cs => c + dotL cs Unk.Z
  | [] => 0
def TabOk [Unk] (t : Nat × List Int × List Int × List Int) : Prop :=
  (t.1 = 0 → dotF t.2.2.2 = dotF t.2.1 * dotF t.2.2.1) ∧ (t.1 = 1 → dotF t.2.2.1 ≠ 0 ∧ dotF t.2.2.2 = Int.tdiv (dotF t.2.1) (dotF t.2.2.1)) ∧ (t.1 = 2 → dotF t.2.2.1 ≠ 0 ∧ dotF t.2.2.2 = Int.tmod (dotF t.2.1) (dotF t.2.2.1))
set_option linter.unusedSectionVars false
section
variable [Unk]
mutual
inductive VR (μ : Mu) : Value → Value → Prop
  | bool (b : Bool) : VR μ (.bool b) (.bool b)
  | int (k : IntKind) (n : Int) : VR μ (.int k n) (.int k n)
  | string (s : ByteArray) : VR μ (.string s) (.string s)
  | nilp : VR μ (.pointer none) (.pointer none)
  | ptr {b : Nat} {i : BI} (off : Nat) : μ b = some i → VR μ (.pointer (some ⟨b, off, none⟩)) (.pointer (some ⟨i.rb, i.d + off, none⟩))
  | gptr (g off : Nat) : VR μ (.pointer (some ⟨g, off, some 0⟩)) (.pointer (some ⟨g, off, none⟩))
  | junk (n : Int) : VR μ (.chan (some 0)) (.int .u8 n)
  | nils : VR μ (.slice none 0 0) (.slice none 0 0)
  | slice {b : Nat} {i : BI} (off len cap x : Nat) (ra : Addr) : μ b = some i → len ≤ cap → (x = 0 ∨ (x ≤ i.xe ∧ off + cap * i.z = i.n)) → (ra = ⟨i.rb, i.d + off, none⟩ ∨ (cap = 0 ∧ x = 0)) →
      VR μ (.slice (some ⟨b, off, none⟩) len cap) (.slice (some ra) len (cap + x))
  | nilm : VR μ (.map none) (.map none)
  | map {b : Nat} {i : BI} : μ b = some i → VR μ (.map (some b)) (.map (some i.rb))
  | nilc : VR μ (.chan none) (.chan none)
  | chan {b : Nat} {i : BI} : μ b = some i → VR μ (.chan (some (Nat.succ b))) (.chan (some i.rb))
  | func (f : FuncId) {a a' c c' : List Value} : VRs μ a a' → VRs μ c c' → VR μ (.func (.func f) ⟨a⟩ ⟨c⟩) (.func (.func f) ⟨a'⟩ ⟨c'⟩)
  | yield {b : Nat} {i : BI} : μ b = some i → VR μ (.func (.yield b) ⟨[]⟩ ⟨[]⟩) (.func (.yield i.rb) ⟨[]⟩ ⟨[]⟩)
  | sym {l : List Value} {k : IntKind} {c : Int} {cs : List Int} {n : Int} : l = .int k c :: cs.map (.int k) → n = c + dotL cs Unk.Z → VR μ (.func (.yield 0) ⟨l⟩ ⟨[]⟩) (.int k n)
  | nilFunc : VR μ .nilFunc .nilFunc
  | iface (t : TypeId) {v v' : Value} : VR μ v v' → VR μ (.iface t v) (.iface t v')
  | nilIface : VR μ .nilIface .nilIface
  | agg {l l' : List Value} : VRs μ l l' → (∀ x ∈ l, oneB x = true) → VR μ (.agg ⟨l⟩) (.agg ⟨l'⟩)
  | tuple {l l' : List Value} : VRs μ l l' → VR μ (.tuple ⟨l⟩) (.tuple ⟨l'⟩)
inductive VRs (μ : Mu) : List Value → List Value → Prop
  | nil : VRs μ [] []
  | cons {a a' : Value} {l l' : List Value} : VR μ a a' → VRs μ l l' → VRs μ (a :: l) (a' :: l')
end
def Le (μ μ' : Mu) : Prop := ∀ b i, μ b = some i → μ' b = some i
theorem Le.refl (μ : Mu) : Le μ μ := fun _ _ h => h
theorem Le.trans {a b c : Mu} (h : Le a b) (k : Le b c) : Le a c := fun x i e => k x i (h x i e)
mutual
theorem VR.mono {μ μ' : Mu} (hl : Le μ μ') : ∀ {a v : Value}, VR μ a v → VR μ' a v
  | _, _, .bool b => .bool b
  | _, _, .int k n => .int k n
  | _, _, .string s => .string s
  | _, _, .nilp => .nilp
  | _, _, .ptr off h => .ptr off (hl _ _ h)
  | _, _, .gptr g off => .gptr g off
  | _, _, .junk n => .junk n
  | _, _, .nils => .nils
  | _, _, .slice off len cap x ra h g k m => .slice off len cap x ra (hl _ _ h) g k m
  | _, _, .nilm => .nilm
  | _, _, .map h => .map (hl _ _ h)
  | _, _, .nilc => .nilc
  | _, _, .chan h => .chan (hl _ _ h)
  | _, _, .func f ha hc => .func f (VRs.mono hl ha) (VRs.mono hl hc)
  | _, _, .yield h => .yield (hl _ _ h)
  | _, _, .sym h g => .sym h g
  | _, _, .nilFunc => .nilFunc
  | _, _, .iface t h => .iface t (VR.mono hl h)
  | _, _, .nilIface => .nilIface
  | _, _, .agg h g => .agg (VRs.mono hl h) g
  | _, _, .tuple h => .tuple (VRs.mono hl h)
theorem VRs.mono {μ μ' : Mu} (hl : Le μ μ') : ∀ {a v : List Value}, VRs μ a v → VRs μ' a v
  | _, _, .nil => .nil
  | _, _, .cons h t => .cons (VR.mono hl h) (VRs.mono hl t)
end
theorem VR.one {μ : Mu} {a v : Value} (h : VR μ a v) : oneB v = oneB a := by cases h <;> rfl
theorem VRs.length {μ : Mu} : ∀ {l l' : List Value}, VRs μ l l' → l'.length = l.length
  | _, _, .nil => rfl
  | _, _, .cons _ t => by simp [VRs.length t]
theorem VRs.get {μ : Mu} : ∀ {l l' : List Value}, VRs μ l l' → ∀ {j : Nat} {a : Value}, l[j]? = some a → ∃ v, l'[j]? = some v ∧ VR μ a v
  | _, _, .nil, _, _, h => by simp at h
  | _, _, .cons (a' := a') h t, 0, _, e => by simp at e; subst e; exact ⟨a', by simp, h⟩
  | _, _, .cons h t, j + 1, _, e => by simpa using VRs.get t (j := j) (by simpa using e)
theorem VRs.get' {μ : Mu} : ∀ {l l' : List Value}, VRs μ l l' → ∀ {j : Nat} {v : Value}, l'[j]? = some v → ∃ a, l[j]? = some a ∧ VR μ a v
  | _, _, .nil, _, _, h => by simp at h
  | _, _, .cons (a := a) h t, 0, _, e => by simp at e; subst e; exact ⟨a, by simp, h⟩
  | _, _, .cons h t, j + 1, _, e => by simpa using VRs.get' t (j := j) (by simpa using e)
theorem VRs.mk {μ : Mu} : ∀ {l l' : List Value}, l'.length = l.length → (∀ (j : Nat) (a v : Value), l[j]? = some a → l'[j]? = some v → VR μ a v) → VRs μ l l'
  | [], [], _, _ => .nil
  | [], _ :: _, h, _ => by simp at h
  | _ :: _, [], h, _ => by simp at h
  | a :: l, v :: l', h, g => .cons (g 0 a v (by simp) (by simp)) (VRs.mk (by simpa using h) (fun j x y hx hy => g (j + 1) x y (by simpa using hx) (by simpa using hy)))
theorem VRs.append {μ : Mu} : ∀ {a a' b b' : List Value}, VRs μ a a' → VRs μ b b' → VRs μ (a ++ b) (a' ++ b')
  | _, _, _, _, .nil, h => h
  | _, _, _, _, .cons h t, k => .cons h (VRs.append t k)
theorem VRs.drop {μ : Mu} : ∀ {a a' : List Value} (n : Nat), VRs μ a a' → VRs μ (a.drop n) (a'.drop n)
  | _, _, 0, h => by simpa using h
  | _, _, _ + 1, .nil => .nil
  | _, _, n + 1, .cons _ t => by simpa using VRs.drop n t
theorem VRs.take {μ : Mu} : ∀ {a a' : List Value} (n : Nat), VRs μ a a' → VRs μ (a.take n) (a'.take n)
  | _, _, 0, _ => by simpa using VRs.nil
  | _, _, _ + 1, .nil => .nil
  | _, _, n + 1, .cons h t => by simpa using VRs.cons h (VRs.take n t)
theorem VRs.map {μ : Mu} {α : Type} {f g : α → Value} : ∀ {l : List α}, (∀ x ∈ l, VR μ (f x) (g x)) → VRs μ (l.map f) (l.map g)
  | [], _ => .nil
  | x :: l, h => .cons (h x (by simp)) (VRs.map (fun y hy => h y (by simp [hy])))
mutual
theorem plain_VR (μ : Mu) : ∀ (k : Nat) (v : Value), plainV k v = true → VR μ v v
  | 0, _, h => by simp [plainV] at h
  | k + 1, v, h => by
    cases v with
    | bool b => exact .bool b
    | int k n => exact .int k n
    | float k b => simp [plainV] at h
    | complex k a b => simp [plainV] at h
    | string s => exact .string s
    | pointer a => cases a with
      | none => exact .nilp
      | some a => simp [plainV] at h
    | slice a l c => cases a with
      | none =>
        simp [plainV] at h
        obtain ⟨rfl, rfl⟩ := h
        exact .nils
      | some a => simp [plainV] at h
    | map r => cases r with
      | none => exact .nilm
      | some a => simp [plainV] at h
    | chan r => cases r with
      | none => exact .nilc
      | some a => simp [plainV] at h
    | func fn a c => cases fn with
      | func f =>
        obtain ⟨a⟩ := a; obtain ⟨c⟩ := c
        simp [plainV] at h
        obtain ⟨rfl, rfl⟩ := h
        exact .func f .nil .nil
      | _ => simp [plainV] at h
    | nilFunc => exact .nilFunc
    | iface t v => simp [plainV] at h
    | nilIface => exact .nilIface
    | agg cs =>
      obtain ⟨cs⟩ := cs
      have h' : cs.all (fun x => plainV k x && oneB x) = true := by simpa [plainV] using h
      exact .agg (plain_VRs μ k cs (fun x hx => by have := List.all_eq_true.1 h' x hx; simp at this; exact this.1)) (fun x hx => by have := List.all_eq_true.1 h' x hx; simp at this; exact this.2)
    | tuple cs =>
      obtain ⟨cs⟩ := cs
      have h' : cs.all (plainV k) = true := by simpa [plainV] using h
      exact .tuple (plain_VRs μ k cs (fun x hx => List.all_eq_true.1 h' x hx))
theorem plain_VRs (μ : Mu) : ∀ (k : Nat) (l : List Value), (∀ x ∈ l, plainV k x = true) → VRs μ l l
  | _, [], _ => .nil
  | k, x :: l, h => .cons (plain_VR μ k x (h x (by simp))) (plain_VRs μ k l (fun y hy => h y (by simp [hy])))
end
def Ob.wr : Ob → Prop
  | .cells _ _ _ _ ro => ro = false
  | .map _ => True
  | .mark => True
  | .lock _ _ => True
  | .chan _ _ => True
def EntR (μ : Mu) : List (Value × Value) → List MapEntry → Prop
  | [], [] => True
  | (k, v) :: es, e :: r => VR μ k e.key ∧ VR μ v e.val ∧ EntR μ es r
  | _, _ => False
structure MapR (μ : Mu) (es : List (Value × Value)) (r : Array MapEntry) (cl : Nat) : Prop where
  ent : ∃ l : List MapEntry, l.Perm r.toList ∧ EntR μ es l
  born : ∀ x ∈ r.toList, x.born < cl
  once : (r.toList.map (·.born)).Nodup
  keys : (es.map (·.1)).Nodup
  shape : ∃ s, ∀ e ∈ es, kSh e.1 = some s
def RelOb (μ : Mu) (N : Nat) (w : World) (i : BI) : Ob → Prop
  | .cells c n z tight ro => ∃ cs e fz, w.heap[i.rb]? = some (.cells cs e fz) ∧ (i.n = n ∧ ∀ t, z.e = some t → e = t ∧ (tight = true → cs.size = n)) ∧ i.z = z.z ∧ (tight = true → i.xe = 0 ∧ i.d = 0) ∧ i.d + n + i.xe * z.z ≤ cs.size ∧
      (∀ j, n ≤ j → c.get j = none) ∧
      (∀ j, j < n → ∃ a v, c.get j = some a ∧ cs[i.d + j]? = some v ∧ VR μ a v ∧ oneB a = true) ∧
      (ro = true → i.rb < N) ∧ (ro = false → N ≤ i.rb ∧ ∀ j, j < i.d + n + i.xe * z.z → ¬ (fz.1 ≤ j ∧ j < fz.2))
  | .map es => ∃ r cl, w.heap[i.rb]? = some (.map r cl) ∧ N ≤ i.rb ∧ MapR μ es r cl
  | .mark => w.heap[i.rb]? = some (.deferred (some [])) ∧ N ≤ i.rb
  | .lock st p => w.heap[i.rb]? = some (.loop { i.lp with state := st, pending := p }) ∧ N ≤ i.rb
  | .chan cap buf => ∃ vs s r, w.heap[i.rb]? = some (.chan cap ⟨vs⟩ false s r false) ∧ VRs μ buf vs ∧ N ≤ i.rb
end
class GLs extends Unk where
  tab : Nat → Option (List Value)
  plain : ∀ g cs, tab g = some cs → ∀ v ∈ cs, plainV 4 v = true ∧ oneB v = true
def GlOk [GLs] (W : World) : Prop := ∀ g cs, GLs.tab g = some cs → ∃ e fz, W.heap[g]? = some (.cells ⟨cs⟩ e fz)
set_option linter.unusedSectionVars false
variable [GLs]
theorem GlOk.mono {W w : World} (h : GlOk W) (b : Below W.heap.size W w) : GlOk w := fun g cs e => by
  obtain ⟨u, fz, k⟩ := h g cs e
  exact ⟨u, fz, (b.block g (Array.getElem?_eq_some_iff.1 k).1).trans k⟩
structure Rel (W : World) (μ : Mu) (h : Hp) (w : World) : Prop where
  gl : GlOk W
  dom : ∀ b i, μ b = some i → b < h.n
  ob : ∀ b i o, μ b = some i → h.b.get b = some o → RelOb μ W.heap.size w i o
  inj : ∀ b c i j o p, μ b = some i → μ c = some j → h.b.get b = some o → h.b.get c = some p → o.wr → p.wr → i.rb = j.rb → b = c
  below : Below W.heap.size W w
theorem EntR.mono {μ μ' : Mu} (hl : Le μ μ') : ∀ {es : List (Value × Value)} {r : List MapEntry}, EntR μ es r → EntR μ' es r
  | [], [], _ => trivial
  | (_, _) :: _, _ :: _, ⟨h1, h2, h4⟩ => ⟨h1.mono hl, h2.mono hl, EntR.mono hl h4⟩
  | [], _ :: _, h => h.elim
  | _ :: _, [], h => h.elim
theorem MapR.mono {μ μ' : Mu} (hl : Le μ μ') {es : List (Value × Value)} {r : Array MapEntry} {cl : Nat} (h : MapR μ es r cl) : MapR μ' es r cl :=
  ⟨let ⟨l, h1, h2⟩ := h.ent; ⟨l, h1, h2.mono hl⟩, h.born, h.once, h.keys, h.shape⟩
theorem RelOb.move {μ μ' : Mu} {N : Nat} {w w' : World} {i : BI} {o : Ob} (h : RelOb μ N w i o) (hl : Le μ μ') (hw : w'.heap[i.rb]? = w.heap[i.rb]?) : RelOb μ' N w' i o := by
  cases o with
  | cells c n z tight ro =>
    obtain ⟨cs, e, fz, h1, h2, h3, h4, h5, h6, h7, h8, h9⟩ := h
    exact ⟨cs, e, fz, hw.trans h1, h2, h3, h4, h5, h6, fun j hj => let ⟨a, v, p, q, r, s⟩ := h7 j hj; ⟨a, v, p, q, r.mono hl, s⟩, h8, h9⟩
  | map es =>
    obtain ⟨r, cl, h1, h2, h3⟩ := h
    exact ⟨r, cl, hw.trans h1, h2, h3.mono hl⟩
  | mark => exact ⟨hw.trans h.1, h.2⟩
  | lock st p => exact ⟨hw.trans h.1, h.2⟩
  | chan cap buf =>
    obtain ⟨vs, s, r, h1, h2, h3⟩ := h
    exact ⟨vs, s, r, hw.trans h1, h2.mono hl, h3⟩
theorem RelOb.old {μ : Mu} {N : Nat} {w : World} {i : BI} {o : Ob} (h : RelOb μ N w i o) : i.rb < w.heap.size := by
  cases o with
  | cells c n z tight ro => obtain ⟨cs, e, fz, h1, _⟩ := h; exact (Array.getElem?_eq_some_iff.1 h1).1
  | map es => obtain ⟨r, cl, h1, _⟩ := h; exact (Array.getElem?_eq_some_iff.1 h1).1
  | mark => exact (Array.getElem?_eq_some_iff.1 h.1).1
  | lock st p => exact (Array.getElem?_eq_some_iff.1 h.1).1
  | chan cap buf => obtain ⟨vs, s, r, h1, _⟩ := h; exact (Array.getElem?_eq_some_iff.1 h1).1
structure Ext (n : Nat) (μ μ' : Mu) : Prop where
  le : Le μ μ'
  new : ∀ b i, μ' b = some i → μ b = some i ∨ n ≤ b
theorem Ext.refl (n : Nat) (μ : Mu) : Ext n μ μ := ⟨Le.refl μ, fun _ _ h => .inl h⟩
theorem Ext.trans {n m : Nat} {a b c : Mu} (h : Ext n a b) (k : Ext m b c) (hm : n ≤ m) : Ext n a c :=
  ⟨h.le.trans k.le, fun x i e => (k.new x i e).elim (fun e => h.new x i e) (fun e => .inr (Nat.le_trans hm e))⟩
theorem Rel.drew {W : World} {μ : Mu} {h : Hp} {w : World} (R : Rel W μ h w) : Rel W μ h { w with drawn := w.drawn + 1 } :=
  ⟨R.gl, R.dom, fun b i o h1 h2 => (R.ob b i o h1 h2).move (Le.refl _) rfl, R.inj, ⟨R.below.os, R.below.tape, R.below.output, R.below.size, R.below.block⟩⟩
end Go.EvM
namespace Go.EvM
set_option linter.unusedSectionVars false
variable [GLs]
set_option linter.unusedVariables false
open Go.RowKit
def LeavesOf (P : Program) : List Field → List (Nat × TypeDesc) → Prop
  | [], [] => True
  | f :: fs, p :: l => f.name ≠ "_" ∧ f.offset = p.1 ∧ P.underlying f.type = some p.2 ∧ keyD p.2 = true ∧ LeavesOf P fs l
  | _, _ => False
structure CxOk (P : Program) (cx : Cx) : Prop where
  ti : ∀ t i, cx.ti t = some i → ∃ f z, P.info? t = some f ∧ P.underlying t = some i.desc ∧ f.size = i.size ∧ f.bytes = i.bytes ∧ f.zero = some z ∧ z.cells.toList = i.zero ∧
    i.zero.length = i.size ∧ ∀ x ∈ i.zero, plainV 4 x = true ∧ oneB x = true
  fn : ∀ f g, cx.fn f = some g → P.funcs[f]? = some g ∧ g.name ≠ "runtime.NumGoroutine"
  eqs : ∀ t ls, cx.eqs t = some ls → ∃ fs, P.underlying t = some (.struct fs) ∧ P.stoodInHeld t = false ∧ P.eqGuardType P.depth t = false ∧ LeavesOf P fs.toList ls
  lies : ∀ e n off u, cx.lies e n off u = true → liesAt P P.depth e (n / P.cellsOf e) off u 1 = true
  one : ∀ e, cx.one e = true → P.cellsOf e = 1
  gl : ∀ g c, cx.gl g = some c → ∃ cs, GLs.tab g = some cs ∧ ∀ j, c.get j = cs[j]?
  facts : ∀ f ∈ cx.facts, f.2.1 ≤ dotL f.1 Unk.Z ∧ dotL f.1 Unk.Z ≤ f.2.2
  tabs : ∀ t ∈ cx.tabs, TabOk t
  zv : ∀ t i, cx.ti t = some i → ∃ f, P.info? t = some f ∧ f.zero = some i.zv ∧ plainV 5 i.zv = true
section
variable {P : Program} {cx : Cx} {t : TypeId} {i : TI}
theorem CxOk.run_typeInfo (C : CxOk P cx) (h : cx.ti t = some i) (w : World) : ∃ f, P.info? t = some f ∧ f.size = i.size ∧ f.bytes = i.bytes ∧ (typeInfo t).run P w = .ok f w := by
  obtain ⟨f, z, h1, h2, h3, h4, _⟩ := C.ti t i h
  exact ⟨f, h1, h3, h4, by simp [typeInfo, h1]⟩
theorem CxOk.run_und (C : CxOk P cx) (h : cx.ti t = some i) (w : World) : (underlying t).run P w = .ok i.desc w := by
  obtain ⟨f, z, h1, h2, h3, h4, _⟩ := C.ti t i h
  simp [underlying, h2]
theorem CxOk.run_size (C : CxOk P cx) (h : cx.ti t = some i) (w : World) : (sizeOf t).run P w = .ok i.size w := by
  obtain ⟨f, h1, h2, _, h3⟩ := C.run_typeInfo h w
  simp [sizeOf, h3, h2]
theorem CxOk.run_isAgg (C : CxOk P cx) (h : cx.ti t = some i) (w : World) : (isAgg t).run P w = .ok (isAggB i.desc) w := by
  simp only [isAgg, Sem.run_bind, C.run_und h, Result.andThen_ok]
  cases i.desc <;> rfl
theorem CxOk.run_zero (C : CxOk P cx) (h : cx.ti t = some i) (w : World) : ∃ z, (zeroValue t).run P w = .ok z w ∧ z.cells.toList = i.zero := by
  obtain ⟨f, z, h1, h2, h3, h4, h5, h6, _⟩ := C.ti t i h
  exact ⟨z, by simp [zeroValue, typeInfo, h1, h5], h6⟩
theorem CxOk.zero_len (C : CxOk P cx) (h : cx.ti t = some i) : i.zero.length = i.size := by
  obtain ⟨f, z, h1, h2, h3, h4, h5, h6, h7, _⟩ := C.ti t i h
  exact h7
theorem CxOk.zero_VRs (C : CxOk P cx) (h : cx.ti t = some i) (μ : Mu) : VRs μ i.zero i.zero := by
  obtain ⟨f, z, h1, h2, h3, h4, h5, h6, h7, h8⟩ := C.ti t i h
  exact plain_VRs μ 4 _ fun x hx => (h8 x hx).1
theorem CxOk.zero_one (C : CxOk P cx) (h : cx.ti t = some i) : ∀ x ∈ i.zero, oneB x = true := by
  obtain ⟨f, z, h1, h2, h3, h4, h5, h6, h7, h8⟩ := C.ti t i h
  exact fun x hx => (h8 x hx).2
end
theorem add_off (b o n : Nat) : Addr.add ⟨b, o, none⟩ n = ⟨b, o + n, none⟩ := by
  unfold Addr.add; split <;> simp_all
theorem one' {v : Value} (h : oneB v = true) : v.oneCell' = true := by cases v <;> first | rfl | exact h
section
variable {P : Program} {W : World} {μ : Mu} {h : Hp} {w : World}
theorem Rel.cell (R : Rel W μ h w) {b : Nat} {i : BI} {c : Tr Value} {n : Nat} {z : ZT} {ti ro : Bool} (hb : μ b = some i) (ho : h.b.get b = some (.cells c n z ti ro)) {j : Nat} {a : Value} (hc : c.get j = some a) :
    j < n ∧ ∃ v, w.cell? ⟨i.rb, i.d + j, none⟩ = some v ∧ VR μ a v ∧ oneB a = true := by
  obtain ⟨cs, e, fz, h1, h2, h3, h4, h5, h6, h7, h8⟩ := R.ob b i _ hb ho
  have hj : j < n := by
    rcases Nat.lt_or_ge j n with hj | hj
    · exact hj
    · rw [h6 j hj] at hc; cases hc
  obtain ⟨a', v, p, q, r, s⟩ := h7 j hj
  rw [hc] at p; cases p
  exact ⟨hj, v, by simp [World.cell?, h1, q], r, s⟩
theorem Rel.cells (R : Rel W μ h w) {b : Nat} {i : BI} {c : Tr Value} {n : Nat} {z : ZT} {ti ro : Bool} (hb : μ b = some i) (ho : h.b.get b = some (.cells c n z ti ro)) :
    ∀ {k off : Nat} {l : List Value}, c.getL k off = some l → ∃ l', VRs μ l l' ∧ (∀ x ∈ l, oneB x = true) ∧ l.length = k ∧ (∀ (j : Nat) (v : Value), l'[j]? = some v → w.cell? (Addr.add ⟨i.rb, i.d + off, none⟩ j) = some v) ∧
      (k = 0 ∨ off + k ≤ n) := by
  intro k
  induction k with
  | zero => intro off l hl; rw [Tr.getL_zero] at hl; cases hl; exact ⟨[], .nil, by simp, rfl, by simp, .inl rfl⟩
  | succ k ih =>
    intro off l hl
    rw [Tr.getL_succ] at hl
    cases hx : c.get off with
    | none => rw [hx] at hl; cases hl
    | some a =>
      rw [hx] at hl
      cases hr : c.getL k (off + 1) with
      | none => rw [hr] at hl; cases hl
      | some r =>
        rw [hr] at hl; cases hl
        obtain ⟨hj, v, hv, hva, hone⟩ := R.cell hb ho hx
        obtain ⟨l', g1, g2, g3, g4, g5⟩ := ih hr
        refine ⟨v :: l', .cons hva g1, ?_, by simp [g3], ?_, .inr ?_⟩
        · intro x hx; cases hx with
          | head => exact hone
          | tail _ hx => exact g2 x hx
        · intro j u hu
          cases j with
          | zero => simp at hu; subst hu; rw [add_off]; exact hv
          | succ j =>
            have := g4 j u (by simpa using hu)
            rw [add_off] at this ⊢
            rw [show i.d + off + (j + 1) = i.d + (off + 1) + j from by omega]; exact this
        · omega
theorem Rel.run_loadCells (R : Rel W μ h w) {b : Nat} {i : BI} {c : Tr Value} {n : Nat} {z : ZT} {ti ro : Bool} (hb : μ b = some i) (ho : h.b.get b = some (.cells c n z ti ro))
    {k off : Nat} {l : List Value} (hl : c.getL k off = some l) : ∃ l', VRs μ l l' ∧ (∀ x ∈ l, oneB x = true) ∧ l'.length = k ∧ (loadCells ⟨i.rb, i.d + off, none⟩ k).run P w = .ok l'.toArray w := by
  obtain ⟨l', g1, g2, g3, g4, g5⟩ := R.cells hb ho hl
  have hlen : l'.length = k := by rw [g1.length, g3]
  refine ⟨l', g1, g2, hlen, ?_⟩
  rw [← hlen]
  exact run_loadCells_list w _ l' g4
theorem setCells_heap (b : Nat) : ∀ (vs : List Value) (o : Nat) (w : World) (cs : Array Value) (e : TypeId) (fz : Nat × Nat), w.heap[b]? = some (.cells cs e fz) → o + vs.length ≤ cs.size →
    ∃ cs', (w.setCells b o vs).heap[b]? = some (.cells cs' e fz) ∧ cs'.size = cs.size ∧ ∀ k, cs'[k]? = if o ≤ k ∧ k < o + vs.length then vs[k - o]? else cs[k]?
  | [], o, w, cs, e, fz, h, _ => ⟨cs, h, rfl, fun k => by rw [if_neg (by simp)]⟩
  | v :: r, o, w, cs, e, fz, h, hs => by
    have hs' : o < cs.size := by simp at hs; omega
    have h1 : (w.setCell ⟨b, o, none⟩ v).heap[b]? = some (.cells (cs.setIfInBounds o v) e fz) := by
      simp only [World.setCell, Array.getElem?_modify, if_true, h]; simp
    obtain ⟨cs', g1, g2, g3⟩ := setCells_heap b r (o + 1) _ _ e fz h1 (by simp at hs ⊢; omega)
    refine ⟨cs', g1, by rw [g2]; simp, fun k => ?_⟩
    rw [g3]
    by_cases hk : k = o
    · subst hk
      rw [if_neg (by omega), if_pos (by simp)]
      simp [hs']
    · by_cases h2 : o + 1 ≤ k ∧ k < o + 1 + r.length
      · rw [if_pos h2, if_pos (by simp; omega)]
        obtain ⟨m, rfl⟩ : ∃ m, k = o + (m + 1) := ⟨k - o - 1, by omega⟩
        rw [show o + (m + 1) - (o + 1) = m from by omega, show o + (m + 1) - o = m + 1 from by omega]; simp
      · rw [if_neg h2, if_neg (by simp; omega)]
        rw [Array.getElem?_setIfInBounds_ne (by omega)]
theorem setCells_other (b : Nat) : ∀ (vs : List Value) (o : Nat) (w : World) (r : Nat), r ≠ b → (w.setCells b o vs).heap[r]? = w.heap[r]?
  | [], _, _, _, _ => rfl
  | v :: l, o, w, r, hr => by
    rw [World.setCells, setCells_other b l (o + 1) _ r hr]
    exact Below.heap_setCell w ⟨b, o, none⟩ v r hr
theorem setCells_below {N : Nat} (b : Nat) (hb : N ≤ b) : ∀ (vs : List Value) (o : Nat) (w : World), Below N W w → Below N W (w.setCells b o vs)
  | [], _, _, h => h
  | v :: l, o, w, h => setCells_below b hb l (o + 1) _ (h.setCell (p := ⟨b, o, none⟩) hb v)
theorem putCells_eq {b off : Nat} {l : List Value} {h' : Hp} (hp : putCells h b off l = some h') :
    ∃ c n z ti, h.b.get b = some (.cells c n z ti false) ∧ off + l.length ≤ n ∧ h' = ⟨h.n, h.b.put b (.cells (Tr.putL l off c) n z ti false)⟩ := by
  unfold putCells at hp
  split at hp
  · rename_i c n z ti ro he
    cases hc : (Nat.ble (Nat.add off l.length) n && !ro) with
    | false => rw [hc] at hp; cases hp
    | true =>
      rw [hc] at hp
      have hp' : some (⟨h.n, h.b.put b (.cells (Tr.putL l off c) n z ti ro)⟩ : Hp) = some h' := hp
      simp at hc
      obtain ⟨h1, h2⟩ := hc
      subst h2
      exact ⟨c, n, z, ti, he, by simpa using h1, (Option.some.inj hp').symm⟩
  · cases hp
theorem Rel.putCells (R : Rel W μ h w) {b off : Nat} {i : BI} {l l' : List Value} {h' : Hp} (hb : μ b = some i) (hp : EvM.putCells h b off l = some h') (hl : VRs μ l l') (h1 : ∀ x ∈ l, oneB x = true) :
    (storeCells ⟨i.rb, i.d + off, none⟩ l').run P w = .ok () (w.setCells i.rb (i.d + off) l') ∧ Rel W μ h' (w.setCells i.rb (i.d + off) l') ∧ h'.n = h.n := by
  obtain ⟨c, n, z, ti, ho, hle, rfl⟩ := putCells_eq hp
  obtain ⟨cs, e, fz, r1, r2, r3, r4, r5, r6, r7, r8, r9⟩ := R.ob b i _ hb ho
  obtain ⟨r9, r10⟩ := r9 rfl
  have hlen := hl.length
  have hone : ∀ v ∈ l', v.oneCell' = true := by
    intro v hv
    obtain ⟨j, hj⟩ := List.mem_iff_getElem?.1 hv
    obtain ⟨a, ha, hva⟩ := hl.get' hj
    exact one' (by rw [hva.one]; exact h1 a (List.mem_of_getElem? ha))
  have hst := run_storeCells_cells (P := P) i.rb (i.d + off) l' 0 w
    (fun j hj => by
      have hlt : i.d + off + 0 + j < cs.size := by omega
      simp [World.cell?, r1]; omega)
    (fun j hj => by
      simp only [World.frozen?, r1]
      have := r10 (i.d + off + 0 + j) (by omega)
      simpa using this) hone
  refine ⟨by simpa using hst, ?_, rfl⟩
  obtain ⟨cs', g1, g2, g3⟩ := setCells_heap i.rb l' (i.d + off) w cs e fz r1 (by omega)
  refine ⟨R.gl, R.dom, ?_, ?_, setCells_below _ r9 _ _ _ R.below⟩
  · intro b2 i2 o2 hb2 ho2
    simp only [Tr.get_put] at ho2
    by_cases e2 : b2 = b
    · subst e2
      rw [hb] at hb2; cases hb2
      simp at ho2; subst ho2
      refine ⟨cs', e, fz, g1, ⟨r2.1, fun t ht => ⟨(r2.2 t ht).1, fun h => by rw [g2]; exact (r2.2 t ht).2 h⟩⟩, r3, r4, by omega, ?_, ?_, r8, fun _ => ⟨r9, r10⟩⟩
      · intro j hj
        rw [Tr.get_putL, if_neg (by omega)]; exact r6 j hj
      · intro j hj
        rw [Tr.get_putL, g3]
        by_cases hin : off ≤ j ∧ j < off + l.length
        · rw [if_pos hin, if_pos (by omega)]
          have hlt : j - off < l.length := by omega
          obtain ⟨v, hv, hva⟩ := hl.get (List.getElem?_eq_getElem hlt)
          exact ⟨_, v, List.getElem?_eq_getElem hlt, by rw [show i.d + j - (i.d + off) = j - off from by omega]; exact hv, hva, h1 _ (List.getElem_mem hlt)⟩
        · rw [if_neg hin, if_neg (by omega)]; exact r7 j hj
    · simp [e2] at ho2
      refine (R.ob b2 i2 o2 hb2 ho2).move (Le.refl _) (setCells_other _ _ _ _ _ ?_)
      intro hrb
      cases o2 with
      | cells c2 n2 z2 ti2 ro2 =>
        cases ro2 with
        | false => exact e2 (R.inj b2 b i2 i _ _ hb2 hb ho2 ho rfl rfl hrb)
        | true =>
          obtain ⟨_, _, _, _, _, _, _, _, _, _, k1, _⟩ := R.ob b2 i2 _ hb2 ho2
          have := k1 rfl
          omega
      | map es => exact e2 (R.inj b2 b i2 i _ _ hb2 hb ho2 ho trivial rfl hrb)
      | mark => exact e2 (R.inj b2 b i2 i _ _ hb2 hb ho2 ho trivial rfl hrb)
      | lock _ _ => exact e2 (R.inj b2 b i2 i _ _ hb2 hb ho2 ho trivial rfl hrb)
      | chan _ _ => exact e2 (R.inj b2 b i2 i _ _ hb2 hb ho2 ho trivial rfl hrb)
  · intro b1 b2 i1 i2 o1 o2 hb1 hb2 ho1 ho2 w1 w2 hrb
    have fix : ∀ {x : Nat} {o : Ob}, ((h.b.put b (.cells (Tr.putL l off c) n z ti false)).get x = some o) → o.wr → ∃ p, h.b.get x = some p ∧ p.wr := by
      intro x o hx hw
      rw [Tr.get_put] at hx
      by_cases hxb : x = b
      · subst hxb; exact ⟨_, ho, rfl⟩
      · rw [if_neg hxb] at hx; exact ⟨o, hx, hw⟩
    obtain ⟨p1, k1, l1⟩ := fix ho1 w1
    obtain ⟨p2, k2, l2⟩ := fix ho2 w2
    exact R.inj b1 b2 i1 i2 p1 p2 hb1 hb2 k1 k2 l1 l2 hrb
def Mu.set (μ : Mu) (b : Nat) (i : BI) : Mu := fun c => if c = b then some i else μ c
theorem Mu.set_eq (μ : Mu) (b : Nat) (i : BI) : μ.set b i b = some i := if_pos rfl
theorem Mu.le_set {μ : Mu} {b : Nat} {i : BI} (h : μ b = none) : Le μ (μ.set b i) := fun c j hc => by
  unfold Mu.set; split
  · subst_vars; rw [h] at hc; cases hc
  · exact hc
theorem Mu.ext_set {μ : Mu} {b n : Nat} {i : BI} (h : μ b = none) (hn : n ≤ b) : Ext n μ (μ.set b i) :=
  ⟨Mu.le_set h, fun c j hc => by
    unfold Mu.set at hc; split at hc
    · subst_vars; exact .inr hn
    · exact .inl hc⟩
theorem Rel.alloc (R : Rel W μ h w) {b : Nat} {i : BI} {ob : Ob} {w' : World} {h' : Hp} (hb : μ b = none) (hrb : i.rb = w.heap.size) (hn : h.n ≤ h'.n) (hbn : b < h'.n) (hob : h'.b.get b = some ob)
    (hold : ∀ c j, μ c = some j → h'.b.get c = h.b.get c) (hw : ∃ x, w'.heap = w.heap.push x) (hos : w'.os = w.os) (htp : w'.tape = w.tape) (hout : w'.output = w.output)
    (hr : RelOb (μ.set b i) W.heap.size w' i ob) : Rel W (μ.set b i) h' w' := by
  obtain ⟨x, hx⟩ := hw
  have hkeep : ∀ r, r < w.heap.size → w'.heap[r]? = w.heap[r]? := fun r hr => by rw [hx, Array.getElem?_push, if_neg (by omega)]
  have hsize := R.below.size
  refine ⟨R.gl, ?_, ?_, ?_, ⟨hos.trans R.below.os, htp.trans R.below.tape, hout.trans R.below.output, by rw [hx]; simp; omega, fun k hk => by rw [hkeep k (by omega)]; exact R.below.block k hk⟩⟩
  · intro c j hc
    unfold Mu.set at hc; split at hc
    · subst_vars; exact hbn
    · exact Nat.lt_of_lt_of_le (R.dom c j hc) hn
  · intro c j o hc ho
    unfold Mu.set at hc; split at hc
    · subst_vars; cases hc; rw [hob] at ho; cases ho; exact hr
    · have ho' : h.b.get c = some o := by rw [← hold c j hc]; exact ho
      have ro := R.ob c j o hc ho'
      exact ro.move (Mu.le_set hb) (hkeep _ ro.old)
  · intro c d j k o p hc hd ho hp wo wp hjk
    unfold Mu.set at hc hd
    split at hc <;> split at hd
    · subst_vars; rfl
    · subst_vars; cases hc
      have hp' : h.b.get d = some p := by rw [← hold d k hd]; exact hp
      have := (R.ob d k p hd hp').old
      omega
    · subst_vars; cases hd
      have ho' : h.b.get c = some o := by rw [← hold c j hc]; exact ho
      have := (R.ob c j o hc ho').old
      omega
    · exact R.inj c d j k o p hc hd (by rw [← hold c j hc]; exact ho) (by rw [← hold d k hd]; exact hp) wo wp hjk
end
end Go.EvM
namespace Go.EvM
set_option linter.unusedSectionVars false
variable [GLs]
open Go.RowKit
set_option linter.unusedVariables false
def Ops (o : Oper) (μ : Mu) (ρ ρ' : Env) : Prop := ∀ x ∈ o.op.operands.toList, VR μ (ρ x) (ρ' x)
def PureOk (P : Program) (o : Oper) (f : Env → Option Value) : Prop :=
  ∀ (μ : Mu) (ρ ρ' : Env) (w : World) (v : Value), Ops o μ ρ ρ' → f ρ = some v → ∃ v', (execOp ρ' o).run P w = .ok (.value v') w ∧ VR μ v v'
theorem ltI_eq (a b : Int) : ltI a b = decide (a < b) := by
  cases a <;> cases b <;> simp only [ltI] <;> rw [Bool.eq_iff_iff] <;> simp <;> omega
theorem leI_eq (a b : Int) : leI a b = decide (a ≤ b) := by
  cases a <;> cases b <;> simp only [leI] <;> rw [Bool.eq_iff_iff] <;> simp <;> omega
theorem eqI_eq (a b : Int) : eqI a b = (a == b) := by
  cases a <;> cases b <;> simp only [eqI] <;> rw [Bool.eq_iff_iff] <;> simp <;> omega
theorem blt_lt {a b : Nat} (h : Nat.blt a b = true) : a < b := Nat.le_of_ble_eq_true h
theorem lim63_eq : lim63 = 9223372036854775808 := rfl
theorem lim64_eq : lim64 = 18446744073709551616 := rfl
theorem in64_in {n : Int} (h : in64 n = true) : IntKind.i64.wrap n = n := by
  have e := lim63_eq
  cases n with
  | ofNat m => have := blt_lt (b := lim63) h; exact IntWalk.i64_in _ (by rw [Int.ofNat_eq_natCast]; omega)
  | negSucc m => have := blt_lt (b := lim63) h; exact IntWalk.i64_in _ (by rw [Int.negSucc_eq]; omega)
theorem wr_eq (k : IntKind) (n : Int) : wr k n = k.wrap n := by
  cases k with
  | i64 =>
    show (bif in64 n then n else IntKind.wrap .i64 n) = _
    cases h : in64 n with
    | false => simp only [cond_false]
    | true => rw [in64_in h]; simp only [cond_true]
  | u8 =>
    cases n with
    | ofNat m => show Int.ofNat (m % 256) = _; rw [IntKind.wrap_u8]; simp
    | negSucc m => rfl
  | u64 =>
    cases n with
    | ofNat m => show Int.ofNat (m % lim64) = _; rw [IntKind.wrap_u64, lim64_eq]; simp
    | negSucc m => rfl
  | _ => rfl
theorem eqL_eq : ∀ (l m : List UInt8), eqL l m = (l == m)
  | [], [] => rfl
  | [], _ :: _ => rfl
  | _ :: _, [] => rfl
  | a :: l, b :: m => by
    show (bif Nat.beq a.toNat b.toNat then eqL l m else false) = _
    rw [eqL_eq l m, Bool.eq_iff_iff]
    simp [UInt8.toNat_inj]
theorem ltL_eq : ∀ (l m : List UInt8), ltL l m = Op.bytesLess l m
  | [], [] => rfl
  | [], _ :: _ => rfl
  | _ :: _, [] => rfl
  | a :: l, b :: m => by
    show (bif Nat.blt a.toNat b.toNat then true else bif Nat.beq a.toNat b.toNat then ltL l m else false) = _
    rw [ltL_eq l m, Op.bytesLess, Bool.eq_iff_iff]
    have h1 : (Nat.blt a.toNat b.toNat = true) ↔ a < b := by simp [Nat.blt_eq, UInt8.lt_iff_toNat_lt]
    have h2 : (Nat.beq a.toNat b.toNat = true) ↔ a = b := by simp [UInt8.toNat_inj]
    by_cases c1 : a < b
    · rw [h1.2 c1]; simp [c1]
    · have : Nat.blt a.toNat b.toNat = false := by rw [Bool.eq_false_iff]; exact fun h => c1 (h1.1 h)
      rw [this]
      by_cases c2 : a = b
      · rw [h2.2 c2]; simp [c2]
      · have : Nat.beq a.toNat b.toNat = false := by rw [Bool.eq_false_iff]; exact fun h => c2 (h2.1 h)
        rw [this]; simp [c1, c2]
theorem shape2 {μ : Mu} {a : Value} {k : IntKind} {n : Int} (h : VR μ (.int k n) a) : a = .int k n := by cases h; rfl
theorem shapeS {μ : Mu} {a : Value} {s : ByteArray} (h : VR μ (.string s) a) : a = .string s := by cases h; rfl
theorem isub (a b : Int) : Int.sub a b = a - b := rfl
theorem intBin_ok {P : Program} {op : BinOp} {k : IntKind} {a b : Int} {v : Value} (h : intBin op k a b = some v) (w : World) (μ : Mu) (t : TypeId) (hs : op ≠ .shl) (hr : op ≠ .shr) :
    (binOp op t (.int k a) (.int k b)).run P w = .ok v w ∧ VR μ v v := by
  cases op <;> simp only [intBin, wr_eq, ltI_eq, leI_eq, eqI_eq] at h <;> first
    | (exact absurd rfl hs)
    | (exact absurd rfl hr)
    | (cases h; refine ⟨?_, by constructor⟩; simp [binOp, Op.intArith, Op.intCmp, Op.intBits, bne, isub]; done)
    | (cases hz : ((b : Int) == Int.ofNat 0) with
       | true => rw [hz] at h; cases h
       | false =>
         rw [hz] at h; cases h
         refine ⟨?_, by constructor⟩
         have : ¬ b = 0 := by simpa using hz
         simp [binOp, Op.intDiv, this])
theorem app_eq (x y : ByteArray) : x ++ y = ⟨⟨x.data.toList ++ y.data.toList⟩⟩ := by
  apply ByteArray.ext
  rw [ByteArray.data_append]
  apply Array.ext'
  simp
theorem size_len (a : ByteArray) : a.size = a.data.toList.length := (Array.length_toList (xs := a.data)).symm
theorem strBin_ok {P : Program} {op : BinOp} {a b : ByteArray} {v : Value} (h : strBin op a b = some v) (w : World) (μ : Mu) (t : TypeId) (hs : op ≠ .shl) (hr : op ≠ .shr) :
    (binOp op t (.string a) (.string b)).run P w = .ok v w ∧ VR μ v v := by
  have e1 := ByteArray.toList_eq a
  have e2 := ByteArray.toList_eq b
  have tot : ∀ x y : List UInt8, (!(Op.bytesLess y x)) = (Op.bytesLess x y || x == y) := by
    intro x
    induction x with
    | nil => intro y; cases y <;> rfl
    | cons c x ih =>
      intro y
      cases y with
      | nil => rfl
      | cons d y =>
        simp only [Op.bytesLess, Bool.not_or, Bool.not_and, ih, List.cons_beq_cons]
        by_cases h1 : c < d
        · have h2 : ¬ d < c := by simp [UInt8.lt_iff_toNat_lt] at *; omega
          have h3 : ¬ d = c := by rintro rfl; simp at h1
          simp [h1, h2, h3]
        · by_cases h2 : d < c
          · have h3 : ¬ c = d := by rintro rfl; simp at h2
            simp [h1, h2, h3]
          · have h3 : c = d := by rw [← UInt8.toNat_inj]; simp [UInt8.lt_iff_toNat_lt] at *; omega
            simp [h3]
  cases op <;> simp only [strBin, eqL_eq, ltL_eq] at h <;> first
    | (cases h; done)
    | (exact absurd rfl hs)
    | (exact absurd rfl hr)
    | (cases h; refine ⟨?_, by constructor⟩; simp [binOp, Op.stringOp, e1, e2, tot]; done)
    | (cases h; refine ⟨?_, by constructor⟩; simp only [binOp, Op.stringOp, e1, e2, Sem.run_pure, ← tot, Bool.not_not]; done)
    | (cases hz : Nat.blt (Nat.add a.data.toList.length b.data.toList.length) lim63 with
       | false => rw [hz] at h; cases h
       | true =>
         rw [hz] at h; cases h
         have h1 := blt_lt hz
         have h2 := lim63_eq
         have h3 : (IntKind.i64.max : Int) = 9223372036854775807 := by decide
         refine ⟨?_, by constructor⟩
         have h4 : ¬ ((a.size + b.size : Nat) : Int) > IntKind.i64.max := by
           rw [h3]
           have := size_len a
           have := size_len b
           have : Nat.add a.data.toList.length b.data.toList.length = a.data.toList.length + b.data.toList.length := rfl
           omega
         simp only [binOp, Op.stringOp, h4, if_false, Sem.run_pure, app_eq])
theorem imul (a b : Int) : Int.mul a b = a * b := rfl
theorem pow_eq (b : Nat) (k : IntKind) : Int.ofNat (Nat.pow 2 (Nat.min b k.bits)) = (2 : Int) ^ (min b k.bits) := by
  rw [Int.ofNat_eq_natCast]
  show ((2 ^ (min b k.bits) : Nat) : Int) = _
  rw [Int.natCast_pow]; rfl
theorem binV_ok {P : Program} {op : BinOp} {x y x' y' v : Value} {μ : Mu} (hx : VR μ x x') (hy : VR μ y y') (h : binV op x y = some v) (w : World) (t : TypeId) (X Y : Operand) :
    ((do eqGuard op t X Y x' y'; binOp op t x' y' : Sem Value)).run P w = .ok v w ∧ VR μ v v := by
  unfold binV at h
  split at h
  · rename_i k a
    split at h
    · rename_i k' b
      cases hx; cases hy
      have hg : eqGuard op t X Y (.int k a) (.int k' b) = pure () := by cases op <;> rfl
      simp only [hg, pure_bind]
      split at h
      · cases b with
        | ofNat b =>
          simp only [shiftV, wr_eq, pow_eq, imul] at h
          cases h
          refine ⟨?_, by constructor⟩
          have : ¬ ((b : Int) < 0) := by omega
          simp [binOp, Op.shift, this]
        | negSucc b => cases h
      · cases b with
        | ofNat b =>
          simp only [shiftV, pow_eq] at h
          cases h
          refine ⟨?_, by constructor⟩
          have : ¬ ((b : Int) < 0) := by omega
          simp [binOp, Op.shift, this]
        | negSucc b => cases h
      · rename_i h1 h2
        cases hd : decide (k = k') with
        | false => rw [hd] at h; cases h
        | true =>
          rw [hd] at h
          obtain rfl : k = k' := of_decide_eq_true hd
          exact intBin_ok h w μ t (fun e => h1 e) (fun e => h2 e)
    · cases h
  · rename_i a
    split at h
    · rename_i b
      cases hx; cases hy
      have hg : eqGuard op t X Y (.string a) (.string b) = pure () := by cases op <;> rfl
      simp only [hg, pure_bind]
      by_cases h1 : op = .shl
      · subst h1; cases h
      · by_cases h2 : op = .shr
        · subst h2; cases h
        · exact strBin_ok h w μ t h1 h2
    · cases h
  · cases h
theorem equal_pl_n {P : Program} {d : TypeDesc} {x y x' y' : Value} {b : Bool} {μ : Mu} (hx : VR μ x x') (hy : VR μ y y') (h : eqPl d x y = some b) (w : World) (t : TypeId) (hu : P.underlying t = some d) (n : Nat) :
    (Op.equalIn (n + 1) t x' y').run P w = .ok b w := by
  have hun : (underlying t).run P w = .ok d w := by simp [underlying, hu]
  unfold eqPl at h
  split at h <;> (try (cases h; done)) <;> cases h <;> cases hx <;> cases hy <;> simp only [Op.equalIn, Sem.run_bind, hun, Result.andThen_ok, Sem.run_pure] <;> (try rfl)
  rename_i a b
  cases a <;> cases b <;> rfl
theorem equal_pl {P : Program} {d : TypeDesc} {x y x' y' : Value} {b : Bool} {μ : Mu} (hx : VR μ x x') (hy : VR μ y y') (h : eqPl d x y = some b) (w : World) (t : TypeId) (hu : P.underlying t = some d) :
    (Op.equal t x' y').run P w = .ok b w := equal_pl_n hx hy h w t hu 9999
theorem eqV_ok {P : Program} {d : TypeDesc} {x y x' y' v : Value} {μ : Mu} {ne : Bool} (hx : VR μ x x') (hy : VR μ y y') (h : eqV d ne x y = some v) (w : World) (t : TypeId) (X Y : Operand) (hu : P.underlying t = some d) :
    ((do eqGuard (eqOp ne) t X Y x' y'; binOp (eqOp ne) t x' y' : Sem Value)).run P w = .ok v w ∧ VR μ v v := by
  have gen : ∀ b, eqPl d x y = some b → some (Value.bool (turn ne b)) = some v → ((do eqGuard (eqOp ne) t X Y x' y'; binOp (eqOp ne) t x' y' : Sem Value)).run P w = .ok v w ∧ VR μ v v := by
    intro b hb h
    have he := equal_pl hx hy hb w t hu
    have hg : ∀ op, eqGuard op t X Y x' y' = pure () := by
      intro op
      unfold eqPl at hb
      split at hb <;> (try (cases hb; done)) <;> cases hx <;> cases hy <;> cases op <;> rfl
    have hbin : (binOp (eqOp ne) t x' y').run P w = .ok (.bool (turn ne b)) w := by
      unfold eqPl at hb
      cases ne <;> (split at hb <;> (try (cases hb; done)) <;> cases hx <;> cases hy <;> simp [binOp, eqOp, turn, he])
    cases h
    exact ⟨by simp only [hg, pure_bind, hbin], by constructor⟩
  cases x <;> first
    | exact binV_ok hx hy h w t X Y
    | (have h' : (match eqPl d _ y with | some b => some (Value.bool (turn ne b)) | none => none) = some v := h
       split at h'
       · rename_i b hb; exact gen b hb h'
       · cases h')
end Go.EvM
namespace Go.EvM
set_option linter.unusedSectionVars false
variable [GLs]
open Go.RowKit
set_option linter.unusedVariables false
variable {P : Program} {cx : Cx} {o : Oper}
theorem mem_ops {μ : Mu} {ρ ρ' : Env} (h : Ops o μ ρ ρ') {op : Op} (ho : o.op = op) {x : Operand} (hx : x ∈ op.operands.toList) : VR μ (ρ x) (ρ' x) := h x (by rw [ho]; exact hx)
theorem run_v {s : Sem Value} {w w' : World} {v : Value} (r : s.run P w = .ok v w') : (do pure (Next.value (← s)) : Sem Next).run P w = .ok (.value v) w' := by
  simp [r]
theorem ok_move {x : Operand} (ho : o.op = .move x) : PureOk P o fun ρ => some (ρ x) := by
  intro μ ρ ρ' w v h e
  cases e
  exact ⟨ρ' x, by simp [execOp, ho], mem_ops h ho (by simp [Op.operands])⟩
theorem ok_assign {x : Operand} (ho : o.op = .assign x) : PureOk P o fun ρ => some (ρ x) := by
  intro μ ρ ρ' w v h e
  cases e
  exact ⟨ρ' x, by simp [execOp, ho], mem_ops h ho (by simp [Op.operands])⟩
theorem ok_pick {c a b : Operand} (ho : o.op = .pick c a b) : PureOk P o fun ρ => match ρ c with | .bool t => some (bif t then ρ a else ρ b) | _ => none := by
  intro μ ρ ρ' w v h e
  have hc := mem_ops h ho (x := c) (by simp [Op.operands])
  have ha := mem_ops h ho (x := a) (by simp [Op.operands])
  have hb := mem_ops h ho (x := b) (by simp [Op.operands])
  dsimp only at e
  split at e
  · rename_i t ht
    rw [ht] at hc
    generalize hr : ρ' c = r at hc
    cases hc
    cases t with
    | true => cases e; exact ⟨ρ' a, by simp [execOp, ho, hr, asBool], ha⟩
    | false => cases e; exact ⟨ρ' b, by simp [execOp, ho, hr, asBool], hb⟩
  · cases e
theorem ok_nil {x : Operand} (ho : o.op = .nilCheck x) : PureOk P o fun ρ => nilV (ρ x) := by
  intro μ ρ ρ' w v h e
  have hc := mem_ops h ho (x := x) (by simp [Op.operands])
  dsimp only at e
  generalize hr : ρ' x = r at hc
  generalize hq : ρ x = q at hc e
  unfold nilV at e
  split at e
  · cases e
    cases hc with
    | ptr off hb => exact ⟨_, by simp [execOp, ho, hr], .ptr off hb⟩
    | gptr g off => exact ⟨_, by simp [execOp, ho, hr], .gptr g off⟩
  · cases e
    cases hc with
    | func _ ha hb => exact ⟨_, by simp [execOp, ho, hr], .func _ ha hb⟩
  · cases e
theorem ok_un {op : UnOp} {t : TypeId} {x : Operand} (ho : o.op = .unOp op t x) : PureOk P o fun ρ => unV op (ρ x) := by
  intro μ ρ ρ' w v h e
  have hc := mem_ops h ho (x := x) (by simp [Op.operands])
  dsimp only at e
  generalize hr : ρ' x = r at hc
  generalize hq : ρ x = q at hc e
  unfold unV at e
  split at e
  · cases e; cases hc; exact ⟨_, by simp [execOp, ho, hr, Op.unary], .bool _⟩
  · cases e; cases hc
    rename_i k n
    exact ⟨_, by simp [execOp, ho, hr, Op.unary, Op.intArith, wr_eq, isub], .int _ _⟩
  · rename_i k n
    cases hc
    simp only [intBin] at e
    cases e
    exact ⟨_, by simp [execOp, ho, hr, Op.unary, Op.intBits], .int _ _⟩
  · cases e
theorem ok_bin {op : BinOp} {t u : TypeId} {x y : Operand} (ho : o.op = .binOp op t x y u) : PureOk P o fun ρ => binV op (ρ x) (ρ y) := by
  intro μ ρ ρ' w v h e
  have h1 := mem_ops h ho (x := x) (by simp [Op.operands])
  have h2 := mem_ops h ho (x := y) (by simp [Op.operands])
  obtain ⟨r, g⟩ := binV_ok (P := P) h1 h2 e w t x y
  exact ⟨v, by unfold execOp; rw [ho]; exact run_v r, g⟩
theorem ok_eq {ne : Bool} {t u : TypeId} {x y : Operand} {i : TI} (C : CxOk P cx) (ht : cx.ti t = some i) (ho : o.op = .binOp (eqOp ne) t x y u) : PureOk P o fun ρ => eqV i.desc ne (ρ x) (ρ y) := by
  intro μ ρ ρ' w v h e
  have h1 := mem_ops h ho (x := x) (by simp [Op.operands])
  have h2 := mem_ops h ho (x := y) (by simp [Op.operands])
  obtain ⟨_, _, _, hu, _⟩ := C.ti t i ht
  obtain ⟨r, g⟩ := eqV_ok (P := P) h1 h2 e w t x y hu
  exact ⟨v, by unfold execOp; rw [ho]; exact run_v r, g⟩
theorem ok_extr {x : Operand} {i : Nat} (ho : o.op = .extract x i) : PureOk P o fun ρ => extrV (ρ x) i := by
  intro μ ρ ρ' w v h e
  have hc := mem_ops h ho (x := x) (by simp [Op.operands])
  dsimp only at e
  generalize hr : ρ' x = r at hc
  generalize hq : ρ x = q at hc e
  unfold extrV at e
  simp only [nth_eq] at e
  split at e
  · cases hc with
    | tuple hl =>
      rename_i l l'
      obtain ⟨u, hu, hv⟩ := hl.get e
      exact ⟨u, by simp [execOp, ho, hr, Instr.extract, hu], hv⟩
  · cases e
theorem VRs.arrMap {μ : Mu} {ρ ρ' : Env} {xs : Array Operand} (h : ∀ x ∈ xs.toList, VR μ (ρ x) (ρ' x)) : VRs μ (xs.map ρ).toList (xs.map ρ').toList := by
  simpa using VRs.map h
theorem ok_func {f : FuncId} {a b : Array Operand} (ho : o.op = .makeFunc (.func f) a b) : PureOk P o fun ρ => some (.func (.func f) (a.map ρ) (b.map ρ)) := by
  intro μ ρ ρ' w v h e
  cases e
  refine ⟨.func (.func f) (a.map ρ') (b.map ρ'), by simp [execOp, ho, Instr.makeFunc], ?_⟩
  have h1 : VRs μ (a.map ρ).toList (a.map ρ').toList := VRs.arrMap fun x hx => mem_ops h ho (by simp [Op.operands]; exact .inl (by simpa using hx))
  have h2 : VRs μ (b.map ρ).toList (b.map ρ').toList := VRs.arrMap fun x hx => mem_ops h ho (by simp [Op.operands]; exact .inr (by simpa using hx))
  exact VR.func f h1 h2
theorem ptrV_eq {v : Value} {b off : Nat} (h : ptrV v = some (b, off)) : v = .pointer (some ⟨b, off, none⟩) := by
  unfold ptrV at h; split at h <;> cases h; rfl
theorem gptrV_eq {v : Value} {b off : Nat} (h : gptrV v = some (b, off)) : ∃ s, v = .pointer (some ⟨b, off, some s⟩) := by
  unfold gptrV at h; split at h <;> cases h; exact ⟨_, rfl⟩
theorem natV_eq {v : Value} {n : Nat} (h : natV v = some n) : ∃ k, v = .int k n := by
  unfold natV at h; split at h <;> cases h; exact ⟨_, rfl⟩
theorem ok_fieldAddr {s : TypeId} {x : Operand} {f : Nat} {i fi : TI} {fs : Array Field} {fd : Field} (C : CxOk P cx) (hs : cx.ti s = some i) (hd : i.desc = .struct fs) (hf : fs.toList[f]? = some fd) (hfi : cx.ti fd.type = some fi)
    (hz : Nat.beq fi.size 0 = false) (ho : o.op = .fieldAddr s x f) :
    PureOk P o fun ρ => match ptrV (ρ x) with | some (b, off) => some (.pointer (some ⟨b, Nat.add off fd.offset, none⟩)) | none => none := by
  intro μ ρ ρ' w v h e
  have hc := mem_ops h ho (x := x) (by simp [Op.operands])
  dsimp only at e
  split at e
  · rename_i b off hp
    cases e
    rw [ptrV_eq hp] at hc
    generalize hr : ρ' x = r at hc
    cases hc with
    | ptr _ hb =>
      rename_i j
      refine ⟨.pointer (some ⟨j.rb, j.d + (off + fd.offset), none⟩), ?_, .ptr _ hb⟩
      have hu := C.run_und hs w
      have hsz := C.run_size hfi w
      have hz' : ¬ fi.size = 0 := by intro h0; rw [h0] at hz; cases hz
      have hf' : fs[f]? = some fd := by simpa using hf
      simp [execOp, ho, hr, Instr.fieldAt, hu, hd, hf', Instr.sureAddr, fieldPlace, hsz, hz', add_off, Nat.add_assoc]
  · cases e
theorem part_ok {μ : Mu} {ag : Bool} {off size : Nat} {v q r : Value} (hv : VR μ q r) (e : partV ag off size q = some v) (t : TypeId) (w : World)
    (hag : (isAgg t).run P w = .ok ag w) (hsz : (sizeOf t).run P w = .ok size w) : ∃ cs, r = .agg cs ∧ ∃ v', (part t cs off).run P w = .ok v' w ∧ VR μ v v' := by
  unfold partV at e
  simp only [nth_eq] at e
  split at e
  · cases hv with
    | agg hl h1 =>
      rename_i l l'
      refine ⟨_, rfl, ?_⟩
      split at e
      · cases e
        refine ⟨.agg ⟨(l'.drop off).take size⟩, ?_, .agg ((hl.drop off).take size) (fun x hx => h1 x (List.mem_of_mem_drop (List.mem_of_mem_take hx)))⟩
        simp [part, hag, hsz]
      · obtain ⟨u, hu, hvu⟩ := hl.get e
        exact ⟨u, by simp [part, hag, hu], hvu⟩
  · cases e
theorem ok_field {s : TypeId} {x : Operand} {f : Nat} {i fi : TI} {fs : Array Field} {fd : Field} (C : CxOk P cx) (hs : cx.ti s = some i) (hd : i.desc = .struct fs) (hf : fs.toList[f]? = some fd) (hfi : cx.ti fd.type = some fi)
    (ho : o.op = .field s x f) : PureOk P o fun ρ => partV (isAggB fi.desc) fd.offset fi.size (ρ x) := by
  intro μ ρ ρ' w v h e
  have hc := mem_ops h ho (x := x) (by simp [Op.operands])
  obtain ⟨cs, hr, v', hp, hv⟩ := part_ok (P := P) hc e fd.type w (C.run_isAgg hfi w) (C.run_size hfi w)
  have hu := C.run_und hs w
  have hf' : fs[f]? = some fd := by simpa using hf
  exact ⟨v', by simp [execOp, ho, hr, Instr.field, hu, hd, hf', asAgg, hp], hv⟩
theorem ok_indexAddrS {t e : TypeId} {x ix : Operand} {i ei : TI} (C : CxOk P cx) (ht : cx.ti t = some i) (hd : i.desc = .slice e) (he : cx.ti e = some ei) (ho : o.op = .indexAddr t x ix) :
    PureOk P o fun ρ => match ρ x, natV (ρ ix) with
        | .slice (some ⟨b, off, none⟩) len _, some j => bif Nat.blt j len then some (.pointer (some ⟨b, Nat.add off (Nat.mul j ei.size), none⟩)) else none
        | _, _ => none := by
  intro μ ρ ρ' w v h e
  have hx := mem_ops h ho (x := x) (by simp [Op.operands])
  have hi := mem_ops h ho (x := ix) (by simp [Op.operands])
  dsimp only at e
  split at e
  · rename_i b off len cap j hq hn
    obtain ⟨k, hk⟩ := natV_eq hn
    rw [hq] at hx; rw [hk] at hi
    generalize hr : ρ' x = r at hx
    generalize hs : ρ' ix = s at hi
    cases hi
    cases hx with
    | slice _ _ _ xx ra hb hlc hor hra =>
      rename_i bi
      cases hlt : Nat.blt j len with
      | false => rw [hlt] at e; cases e
      | true =>
        rw [hlt] at e; cases e
        have hj := blt_lt hlt
        obtain rfl : ra = ⟨bi.rb, bi.d + off, none⟩ := hra.resolve_right (by omega)
        refine ⟨.pointer (some ⟨bi.rb, bi.d + (off + j * ei.size), none⟩), ?_, .ptr _ hb⟩
        have hu := C.run_und ht w
        have hsz := C.run_size he w
        simp [execOp, ho, hr, hs, Instr.indexAt, asIntOf, hu, hd, hj, hsz, add_off, Nat.add_assoc]
  · cases e
theorem ok_indexAddrA {t e : TypeId} {x ix : Operand} {i ei : TI} {n : Nat} (C : CxOk P cx) (ht : cx.ti t = some i) (hd : i.desc = .array n e) (he : cx.ti e = some ei) (ho : o.op = .indexAddr t x ix) :
    PureOk P o fun ρ => match ptrV (ρ x), natV (ρ ix) with
        | some (b, off), some j => bif Nat.blt j n then some (.pointer (some ⟨b, Nat.add off (Nat.mul j ei.size), none⟩)) else none
        | none, some j => (match gptrV (ρ x) with
          | some (g, off) => bif Nat.blt j n then some (.pointer (some ⟨g, Nat.add off (Nat.mul j ei.size), some 0⟩)) else none
          | none => none)
        | _, _ => none := by
  intro μ ρ ρ' w v h e
  have hx := mem_ops h ho (x := x) (by simp [Op.operands])
  have hi := mem_ops h ho (x := ix) (by simp [Op.operands])
  dsimp only at e
  split at e
  · rename_i b off j hq hn
    obtain ⟨k, hk⟩ := natV_eq hn
    rw [ptrV_eq hq] at hx; rw [hk] at hi
    generalize hr : ρ' x = r at hx
    generalize hs : ρ' ix = s at hi
    cases hi
    cases hx with
    | ptr _ hb =>
      rename_i bi
      cases hlt : Nat.blt j n with
      | false => rw [hlt] at e; cases e
      | true =>
        rw [hlt] at e; cases e
        have hj := blt_lt hlt
        refine ⟨.pointer (some ⟨bi.rb, bi.d + (off + j * ei.size), none⟩), ?_, .ptr _ hb⟩
        have hu := C.run_und ht w
        have hsz := C.run_size he w
        simp [execOp, ho, hr, hs, Instr.indexAt, asIntOf, hu, hd, hj, hsz, add_off, Nat.add_assoc, Instr.sureAddr]
  · rename_i j hq0 hn
    split at e
    · rename_i g off hq
      obtain ⟨k, hk⟩ := natV_eq hn
      obtain ⟨sp, hsp⟩ := gptrV_eq hq
      rw [hsp] at hx; rw [hk] at hi
      generalize hr : ρ' x = r at hx
      generalize hs : ρ' ix = s at hi
      cases hi
      cases hx with
      | gptr _ _ =>
        cases hlt : Nat.blt j n with
        | false => rw [hlt] at e; cases e
        | true =>
          rw [hlt] at e; cases e
          have hj := blt_lt hlt
          refine ⟨.pointer (some ⟨g, off + j * ei.size, none⟩), ?_, .gptr _ _⟩
          have hu := C.run_und ht w
          have hsz := C.run_size he w
          simp [execOp, ho, hr, hs, Instr.indexAt, asIntOf, hu, hd, hj, hsz, add_off, Instr.sureAddr]
    · cases e
  · cases e
theorem ok_indexS {t : TypeId} {x ix : Operand} {i : TI} (C : CxOk P cx) (ht : cx.ti t = some i) (hd : i.desc = .string) (ho : o.op = .index t x ix) :
    PureOk P o fun ρ => match ρ x, natV (ρ ix) with
      | .string s, some j => (match nth s.data.toList j with | some b => some (.int .u8 (.ofNat b.toNat)) | none => none)
      | _, _ => none := by
  intro μ ρ ρ' w v h e
  have hx := mem_ops h ho (x := x) (by simp [Op.operands])
  have hi := mem_ops h ho (x := ix) (by simp [Op.operands])
  dsimp only at e
  split at e
  · rename_i s j hq hn
    obtain ⟨k, hk⟩ := natV_eq hn
    rw [hq] at hx; rw [hk] at hi
    generalize hr : ρ' x = r at hx
    generalize hs : ρ' ix = q at hi
    cases hi; cases hx
    simp only [nth_eq] at e
    split at e
    · rename_i b hb
      cases e
      have hb' : s[j]? = some b := by
        have : s.data[j]? = some b := by simpa using hb
        obtain ⟨hlt, hg⟩ := Array.getElem?_eq_some_iff.1 this
        have hlt' : j < s.size := hlt
        show (if hlt : j < s.size then some s[j] else none) = some b
        rw [dif_pos hlt']
        exact congrArg some hg
      have hu := C.run_und ht w
      exact ⟨_, by simp [execOp, ho, hr, hs, Instr.index, asIntOf, hu, hd, hb'], .int _ _⟩
    · cases e
  · cases e
theorem ok_indexA {t e : TypeId} {x ix : Operand} {i ei : TI} {n : Nat} (C : CxOk P cx) (ht : cx.ti t = some i) (hd : i.desc = .array n e) (he : cx.ti e = some ei) (ho : o.op = .index t x ix) :
    PureOk P o fun ρ => match natV (ρ ix) with
        | some j => bif Nat.blt j n then partV (isAggB ei.desc) (Nat.mul j ei.size) ei.size (ρ x) else none
        | none => none := by
  intro μ ρ ρ' w v h e
  have hx := mem_ops h ho (x := x) (by simp [Op.operands])
  have hi := mem_ops h ho (x := ix) (by simp [Op.operands])
  dsimp only at e
  split at e
  · rename_i j hn
    obtain ⟨k, hk⟩ := natV_eq hn
    rw [hk] at hi
    generalize hs : ρ' ix = q at hi
    cases hi
    cases hlt : Nat.blt j n with
    | false => rw [hlt] at e; cases e
    | true =>
      rw [hlt] at e
      have hj := blt_lt hlt
      obtain ⟨cs, hr, v', hp, hv⟩ := part_ok (P := P) hx e _ w (C.run_isAgg he w) (C.run_size he w)
      have hu := C.run_und ht w
      have hsz := C.run_size he w
      have hp' : (part _ cs (j * ei.size)).run P w = .ok v' w := hp
      exact ⟨v', by simp [execOp, ho, hr, hs, Instr.index, asIntOf, hu, hd, hj, hsz, hp'], hv⟩
  · cases e
theorem ok_convI {a b : TypeId} {x : Operand} {k k' : IntKind} {si di : TI} (C : CxOk P cx) (hs : cx.ti a = some si) (hd : cx.ti b = some di) (h1 : si.desc = .int k') (h2 : di.desc = .int k) (ho : o.op = .convert a b x) :
    PureOk P o fun ρ => match ρ x with | .int _ n => some (.int k (wr k n)) | _ => none := by
  intro μ ρ ρ' w v h e
  have hc := mem_ops h ho (x := x) (by simp [Op.operands])
  have u1 := C.run_und hs w
  have u2 := C.run_und hd w
  dsimp only at e
  split at e
  · rename_i q n hq
    cases e
    rw [hq] at hc
    generalize hr : ρ' x = r at hc
    cases hc
    exact ⟨_, by simp [execOp, ho, hr, convert, u1, u2, h1, h2, Conv.intToInt, wr_eq], .int _ _⟩
  · cases e
theorem ok_convS {a b : TypeId} {x : Operand} {si di : TI} (C : CxOk P cx) (hs : cx.ti a = some si) (hd : cx.ti b = some di) (h1 : si.desc = .string) (h2 : di.desc = .string) (ho : o.op = .convert a b x) :
    PureOk P o fun ρ => match ρ x with | .string s => some (.string s) | _ => none := by
  intro μ ρ ρ' w v h e
  have hc := mem_ops h ho (x := x) (by simp [Op.operands])
  have u1 := C.run_und hs w
  have u2 := C.run_und hd w
  dsimp only at e
  split at e
  · rename_i s hq
    cases e
    rw [hq] at hc
    generalize hr : ρ' x = r at hc
    cases hc
    exact ⟨_, by simp [execOp, ho, hr, convert, u1, u2, h1, h2], .string _⟩
  · cases e
end Go.EvM
namespace Go.EvM
set_option linter.unusedSectionVars false
variable [GLs]
open Go.RowKit
set_option linter.unusedVariables false
variable {P : Program} {cx : Cx} {o : Oper}
def OptR (μ : Mu) : Option Value → Option Value → Prop
  | none, none => True
  | some a, some b => VR μ a b
  | _, _ => False
theorem bndV_ok {x x' : Value} {μ : Mu} {y y' n : Nat} (h : VR μ x x') (e : bndV x y = some n) (hy : y ≤ y') (c : BoundsCode) (w : World) :
    (Instr.sliceBound x' y' c).run P w = .ok n w ∧ n ≤ y := by
  unfold bndV at e
  split at e
  · rename_i k i
    cases hb : Nat.ble i y with
    | false => rw [hb] at e; cases e
    | true =>
      rw [hb] at e; cases e
      have := Nat.le_of_ble_eq_true hb
      cases h
      have h' : n ≤ y' := by omega
      exact ⟨by simp [Instr.sliceBound, asIntOf, h'], this⟩
  · cases e
theorem bounds_ok {μ : Mu} {len cap x l hh m : Nat} {lo hi mx lo' hi' mx' : Option Value} (h1 : OptR μ lo lo') (h2 : OptR μ hi hi') (h3 : OptR μ mx mx') (hm : mx.isSome = true → hi.isSome = true)
    (e : bounds len cap lo hi mx = some (l, hh, m)) (isS : Bool) (w : World) :
    (Instr.sliceBounds isS len (cap + x) lo' hi' mx').run P w = .ok (l, hh, if mx.isNone then m + x else m) w ∧ l ≤ hh ∧ (hi.isSome = true → hh ≤ m) ∧ m ≤ cap ∧ (mx = none → m = cap) ∧ (hi = none → hh = len) := by
  unfold bounds at e
  cases e1 : bndO mx cap cap with
  | none => rw [e1] at e; cases e
  | some m1 =>
    rw [e1] at e; dsimp only at e
    cases e2 : bndO hi m1 len with
    | none => rw [e2] at e; cases e
    | some h4 =>
      rw [e2] at e; dsimp only at e
      cases e3 : bndO lo h4 0 with
      | none => rw [e3] at e; cases e
      | some l1 =>
        rw [e3] at e; cases e
        unfold bndO at e1 e2 e3
        cases mx with
        | none =>
          cases mx' with
          | some _ => exact h3.elim
          | none =>
            simp at e1; subst e1
            cases hi with
            | none =>
              cases hi' with
              | some _ => exact h2.elim
              | none =>
                simp at e2; subst e2
                cases lo with
                | none =>
                  cases lo' with
                  | some _ => exact h1.elim
                  | none => simp at e3; subst e3; refine ⟨by simp [Instr.sliceBounds], ?_⟩; simp
                | some lo =>
                  cases lo' with
                  | none => exact h1.elim
                  | some lo' =>
                    obtain ⟨r1, g1⟩ := bndV_ok (P := P) h1 e3 (Nat.le_refl _) .sliceB w
                    refine ⟨by simp [Instr.sliceBounds, r1], ?_⟩; simp; exact g1
            | some hi =>
              cases hi' with
              | none => exact h2.elim
              | some hi' =>
                obtain ⟨r2, g2⟩ := bndV_ok (P := P) h2 e2 (y' := cap + x) (by omega) (if isS then .sliceAcap else .sliceAlen) w
                cases lo with
                | none =>
                  cases lo' with
                  | some _ => exact h1.elim
                  | none => simp at e3; subst e3; refine ⟨by simp [Instr.sliceBounds, r2], ?_⟩; simp; exact g2
                | some lo =>
                  cases lo' with
                  | none => exact h1.elim
                  | some lo' =>
                    obtain ⟨r1, g1⟩ := bndV_ok (P := P) h1 e3 (Nat.le_refl _) .sliceB w
                    refine ⟨by simp [Instr.sliceBounds, r1, r2], ?_⟩; simp; exact ⟨g1, g2⟩
        | some mx =>
          cases mx' with
          | none => exact h3.elim
          | some mx' =>
            obtain ⟨r3, g3⟩ := bndV_ok (P := P) h3 e1 (y' := cap + x) (by omega) (if isS then .slice3Acap else .slice3Alen) w
            cases hi with
            | none => simp at hm
            | some hi =>
              cases hi' with
              | none => exact h2.elim
              | some hi' =>
                obtain ⟨r2, g2⟩ := bndV_ok (P := P) h2 e2 (Nat.le_refl _) .slice3B w
                cases lo with
                | none =>
                  cases lo' with
                  | some _ => exact h1.elim
                  | none => simp at e3; subst e3; refine ⟨by simp [Instr.sliceBounds, r2, r3], ?_⟩; simp; exact ⟨g2, g3⟩
                | some lo =>
                  cases lo' with
                  | none => exact h1.elim
                  | some lo' =>
                    obtain ⟨r1, g1⟩ := bndV_ok (P := P) h1 e3 (Nat.le_refl _) .slice3C w
                    refine ⟨by simp [Instr.sliceBounds, r1, r2, r3], ?_⟩; simp; exact ⟨g1, g2, g3⟩
theorem optR {μ : Mu} {ρ ρ' : Env} {x : Option Operand} (h : ∀ y, x = some y → VR μ (ρ y) (ρ' y)) : OptR μ (x.map ρ) (x.map ρ') := by
  cases x with
  | none => trivial
  | some y => exact h y rfl
theorem extract_eq (s : ByteArray) (l h : Nat) : s.extract l h = ⟨⟨(s.data.toList.drop l).take (h - l)⟩⟩ := by
  apply ByteArray.ext
  apply Array.ext'
  simp [ByteArray.data_extract]
theorem ok_sliceStr {t : TypeId} {x : Operand} {lo hi : Option Operand} {i : TI} (C : CxOk P cx) (ht : cx.ti t = some i) (hd : i.desc = .string) (ho : o.op = .slice t x lo hi none) :
    PureOk P o fun ρ => match ρ x with | .string s => sliceStr s (lo.map ρ) (hi.map ρ) | _ => none := by
  intro μ ρ ρ' w v h e
  have hc := mem_ops h ho (x := x) (by simp [Op.operands])
  have hlo : OptR μ (lo.map ρ) (lo.map ρ') := optR fun y hy => mem_ops h ho (by simp [Op.operands, hy])
  have hhi : OptR μ (hi.map ρ) (hi.map ρ') := optR fun y hy => mem_ops h ho (by simp [Op.operands, hy])
  dsimp only at e
  split at e
  · rename_i s hq
    rw [hq] at hc
    generalize hr : ρ' x = r at hc
    cases hc
    unfold sliceStr at e
    split at e
    · rename_i l hh m hb
      cases e
      have hu := C.run_und ht w
      obtain ⟨rb, _⟩ := bounds_ok (P := P) (x := 0) hlo hhi (mx := none) (mx' := none) trivial (by simp) hb false w
      rw [← size_len] at rb
      refine ⟨.string (s.extract l hh), ?_, by rw [extract_eq]; exact .string _⟩
      simp only [Nat.add_zero] at rb
      simp [execOp, ho, hr, Instr.sliceAt, Instr.slice, hu, hd, rb]
    · cases e
  · cases e
theorem ok_sliceArr {t e : TypeId} {x : Operand} {lo hi mx : Option Operand} {i ei : TI} {n : Nat} (C : CxOk P cx) (ht : cx.ti t = some i) (hd : i.desc = .array n e) (he : cx.ti e = some ei) (hm : mx.isSome = true → hi.isSome = true)
    (ho : o.op = .slice t x lo hi mx) :
    PureOk P o fun ρ => match ptrV (ρ x), bounds n n (lo.map ρ) (hi.map ρ) (mx.map ρ) with
          | some (b, off), some (l, hh, m) => some (.slice (some ⟨b, Nat.add off (Nat.mul l ei.size), none⟩) (Nat.sub hh l) (Nat.sub m l))
          | _, _ => none := by
  intro μ ρ ρ' w v h e
  have hc := mem_ops h ho (x := x) (by simp [Op.operands])
  have hlo : OptR μ (lo.map ρ) (lo.map ρ') := optR fun y hy => mem_ops h ho (by simp [Op.operands, hy])
  have hhi : OptR μ (hi.map ρ) (hi.map ρ') := optR fun y hy => mem_ops h ho (by simp [Op.operands, hy])
  have hmx : OptR μ (mx.map ρ) (mx.map ρ') := optR fun y hy => mem_ops h ho (by simp [Op.operands, hy])
  dsimp only at e
  split at e
  · rename_i b off l hh m hp hb
    cases e
    rw [ptrV_eq hp] at hc
    generalize hr : ρ' x = r at hc
    cases hc with
    | ptr _ hbi =>
      rename_i bi
      have hu := C.run_und ht w
      have hsz := C.run_size he w
      obtain ⟨rb, g1, g2, g3, g4, g5⟩ := bounds_ok (P := P) (x := 0) hlo hhi hmx (by simpa using hm) hb false w
      have rb' : (Instr.sliceBounds false n n (lo.map ρ') (hi.map ρ') (mx.map ρ')).run P w = .ok (l, hh, m) w := by
        rw [Nat.add_zero] at rb; rw [rb]; split <;> rfl
      have hhm : hh ≤ m := by
        cases hi with
        | some _ => exact g2 rfl
        | none =>
          cases mx with
          | none => have := g4 rfl; have := g5 rfl; omega
          | some _ => simp at hm
      refine ⟨.slice (some (if m = l then ⟨bi.rb, bi.d + off, none⟩ else ⟨bi.rb, bi.d + off + l * ei.size, none⟩)) (hh - l) (m - l), ?_, ?_⟩
      · simp [execOp, ho, hr, Instr.sliceAt, hu, hd, Instr.sureAddr, rb', hsz, add_off]
      · refine VR.slice (μ := μ) (off + l * ei.size) (hh - l) (m - l) 0 _ hbi (by omega) (.inl rfl) ?_
        by_cases hml : m = l
        · right; omega
        · left; rw [if_neg hml, Nat.add_assoc]
  · cases e
theorem ok_lenS {t ty : TypeId} {x : Operand} {i : TI} (C : CxOk P cx) (ht : cx.ti t = some i) (hd : i.desc = .string) (ho : o.op = .call { callee := .builtin .len, args := #[x], argTypes := #[t] }) :
    PureOk P o fun ρ => match ρ x with | .string s => some (.int .i64 (.ofNat s.data.toList.length)) | _ => none := by
  intro μ ρ ρ' w v h e
  have hc := mem_ops h ho (x := x) (by simp [Op.operands, Call.operands])
  dsimp only at e
  split at e
  · rename_i s hq
    cases e
    rw [hq] at hc
    generalize hr : ρ' x = r at hc
    cases hc
    have hu := C.run_und ht w
    rw [← size_len]
    refine ⟨.int .i64 (.ofNat s.size), ?_, .int _ _⟩
    simp [execOp, ho, hr, resolve, invoke, builtin, Builtin.len_, hu, hd, goInt]
  · cases e
theorem ok_lenSl {t e : TypeId} {x : Operand} {i : TI} (C : CxOk P cx) (ht : cx.ti t = some i) (hd : i.desc = .slice e) (ho : o.op = .call { callee := .builtin .len, args := #[x], argTypes := #[t] }) :
    PureOk P o fun ρ => match ρ x with | .slice _ n _ => some (.int .i64 (.ofNat n)) | _ => none := by
  intro μ ρ ρ' w v h e
  have hc := mem_ops h ho (x := x) (by simp [Op.operands, Call.operands])
  dsimp only at e
  split at e
  · rename_i a n c hq
    cases e
    rw [hq] at hc
    generalize hr : ρ' x = r at hc
    have hu := C.run_und ht w
    refine ⟨.int .i64 (.ofNat n), ?_, .int _ _⟩
    cases hc <;> simp [execOp, ho, hr, resolve, invoke, builtin, Builtin.len_, hu, hd, goInt]
  · cases e
theorem ok_capSl {t e : TypeId} {x : Operand} {i : TI} (C : CxOk P cx) (ht : cx.ti t = some i) (hd : i.desc = .slice e) (ho : o.op = .call { callee := .builtin .cap, args := #[x], argTypes := #[t] }) :
    PureOk P o fun ρ => match ρ x with | .slice none _ _ => some (.int .i64 (.ofNat 0)) | _ => none := by
  intro μ ρ ρ' w v h e
  have hc := mem_ops h ho (x := x) (by simp [Op.operands, Call.operands])
  dsimp only at e
  split at e
  · rename_i n c hq
    cases e
    rw [hq] at hc
    generalize hr : ρ' x = r at hc
    have hu := C.run_und ht w
    refine ⟨.int .i64 (.ofNat 0), ?_, .int _ _⟩
    cases hc
    simp [execOp, ho, hr, resolve, invoke, builtin, Builtin.cap_, hu, hd, goInt]
  · cases e
theorem ok_lenA {t e : TypeId} {x : Operand} {i : TI} {n : Nat} (C : CxOk P cx) (ht : cx.ti t = some i) (hd : i.desc = .array n e) (ho : o.op = .call { callee := .builtin .len, args := #[x], argTypes := #[t] }) :
    PureOk P o fun _ => some (.int .i64 (.ofNat n)) := by
  intro μ ρ ρ' w v h e
  cases e
  have hu := C.run_und ht w
  refine ⟨.int .i64 (.ofNat n), ?_, .int _ _⟩
  simp [execOp, ho, resolve, invoke, builtin, Builtin.len_, hu, hd, goInt]
theorem ok_min {x y : Operand} {ts : Array TypeId} (ho : o.op = .call { callee := .builtin .min, args := #[x, y], argTypes := ts }) :
    PureOk P o fun ρ => match ρ x, ρ y with | .int k a, .int _ b => some (.int k (bif ltI b a then b else a)) | _, _ => none := by
  intro μ ρ ρ' w v h e
  have h1 := mem_ops h ho (x := x) (by simp [Op.operands, Call.operands])
  have h2 := mem_ops h ho (x := y) (by simp [Op.operands, Call.operands])
  dsimp only at e
  split at e
  · rename_i k a k' b hq hq'
    cases e
    rw [hq] at h1; rw [hq'] at h2
    generalize hr : ρ' x = r at h1
    generalize hs : ρ' y = s at h2
    cases h1; cases h2
    refine ⟨.int k (if b < a then b else a), ?_, ?_⟩
    · simp [execOp, ho, hr, hs, resolve, invoke, builtin, Builtin.min_, Builtin.min2]
    · rw [ltI_eq]; by_cases hlt : b < a <;> simp [hlt] <;> exact .int _ _
  · cases e
theorem ok_max {x y : Operand} {ts : Array TypeId} (ho : o.op = .call { callee := .builtin .max, args := #[x, y], argTypes := ts }) :
    PureOk P o fun ρ => match ρ x, ρ y with | .int k a, .int _ b => some (.int k (bif ltI a b then b else a)) | _, _ => none := by
  intro μ ρ ρ' w v h e
  have h1 := mem_ops h ho (x := x) (by simp [Op.operands, Call.operands])
  have h2 := mem_ops h ho (x := y) (by simp [Op.operands, Call.operands])
  dsimp only at e
  split at e
  · rename_i k a k' b hq hq'
    cases e
    rw [hq] at h1; rw [hq'] at h2
    generalize hr : ρ' x = r at h1
    generalize hs : ρ' y = s at h2
    cases h1; cases h2
    refine ⟨.int k (if a < b then b else a), ?_, ?_⟩
    · simp [execOp, ho, hr, hs, resolve, invoke, builtin, Builtin.max_, Builtin.max2]
    · rw [ltI_eq]; by_cases hlt : a < b <;> simp [hlt] <;> exact .int _ _
  · cases e
end Go.EvM
namespace Go.EvM
set_option linter.unusedSectionVars false
variable [GLs]
open Go.RowKit
set_option linter.unusedVariables false
set_option linter.unusedSimpArgs false
variable {P : Program} {cx : Cx} {o : Oper} {μ : Mu}
theorem coefs_map (k : IntKind) : ∀ cs : List Int, coefs (cs.map (.int k)) = some cs
  | [] => rfl
  | c :: cs => by simp [coefs, coefs_map k cs]
theorem asL_ok {u u' : Value} {x : IntKind × Int × List Int} (e : asL u = some x) (h : VR μ u u') : u' = .int x.1 (x.2.1 + dotL x.2.2 Unk.Z) := by
  unfold asL at e
  split at e
  · cases e; cases h
    simp [dotL]
  · rename_i k c l
    split at e
    · rename_i r hr
      cases e
      generalize hl : (Value.int k c :: l) = m at h
      cases h with
      | yield hb => cases hl
      | sym h1 h2 =>
        rw [h1] at hl
        rw [List.cons.injEq] at hl
        obtain ⟨g1, g2⟩ := hl
        cases g1
        rw [g2, coefs_map] at hr
        cases hr
        rw [h2]
    · cases e
  · cases e
theorem dot_nil (z : List Int) : dotL [] z = 0 := by cases z <;> rfl
theorem dot_add : ∀ (a b z : List Int), dotL (addL a b) z = dotL a z + dotL b z
  | [], b, z => by simp [addL, dot_nil]
  | a :: l, [], z => by simp [addL, dot_nil]
  | a :: l, b :: m, [] => by simp [addL, dotL]
  | a :: l, b :: m, z :: zs => by
    have := dot_add l m zs
    simp only [addL, dotL]
    rw [this]
    show (a + b) * z + _ = _
    rw [Int.add_mul]; omega
theorem dot_neg : ∀ (a z : List Int), dotL (negL a) z = - dotL a z
  | [], z => by simp [negL, dot_nil]
  | a :: l, [] => by simp [negL, dotL]
  | a :: l, z :: zs => by
    have := dot_neg l zs
    simp only [negL, dotL]
    rw [this]
    show (-a) * z + _ = _
    rw [Int.neg_mul]; omega
theorem dot_scale (n : Int) : ∀ (a z : List Int), dotL (scaleL n a) z = n * dotL a z
  | [], z => by simp [scaleL, dot_nil]
  | a :: l, [] => by simp [scaleL, dotL]
  | a :: l, z :: zs => by
    have := dot_scale n l zs
    simp only [scaleL, dotL]
    rw [this, Int.mul_add]
    show (n * a) * z + _ = _
    rw [Int.mul_assoc]
theorem dot_zero : ∀ (a z : List Int), allZ a = true → dotL a z = 0
  | [], z, _ => dot_nil z
  | a :: l, [], _ => rfl
  | a :: l, z :: zs, h => by
    simp only [allZ, Bool.and_eq_true, eqI_eq, beq_iff_eq] at h
    have h1 : a = 0 := h.1
    simp only [dotL, h1, dot_zero l zs h.2]; simp
theorem eqLI_eq : ∀ {a b : List Int}, eqLI a b = true → a = b
  | [], [], _ => rfl
  | a :: l, b :: m, h => by
    simp only [eqLI, Bool.and_eq_true, eqI_eq, beq_iff_eq] at h
    rw [h.1, eqLI_eq h.2]
  | [], _ :: _, h => by cases h
  | _ :: _, [], h => by cases h
theorem mkS_VR (k : IntKind) (c : Int) (cs : List Int) : VR μ (mkS k c cs) (.int k (c + dotL cs Unk.Z)) := by
  unfold mkS
  cases h : allZ cs with
  | true => simp only [cond_true]; rw [dot_zero cs _ h]; simpa using VR.int k c
  | false => exact .sym rfl rfl
def FOk (F : List Fact) : Prop := ∀ f ∈ F, f.2.1 ≤ dotL f.1 Unk.Z ∧ dotL f.1 Unk.Z ≤ f.2.2
theorem findF_ok {cs : List Int} : ∀ {F : List Fact}, FOk F → ∀ {p : Int × Int}, findF cs (negL cs) F = some p → p.1 ≤ dotL cs Unk.Z ∧ dotL cs Unk.Z ≤ p.2
  | [], _, p, h => by cases h
  | f :: F, hF, p, h => by
    have hf := hF f (by simp)
    unfold findF at h
    cases h1 : eqLI f.1 cs with
    | true => rw [h1] at h; cases h; rw [← eqLI_eq h1]; exact hf
    | false =>
      rw [h1] at h
      simp only [cond_false] at h
      cases h2 : eqLI f.1 (negL cs) with
      | true =>
        rw [h2] at h; cases h
        rw [eqLI_eq h2, dot_neg] at hf
        show - f.2.2 ≤ _ ∧ _ ≤ - f.2.1
        omega
      | false => rw [h2] at h; exact findF_ok (fun g hg => hF g (by simp [hg])) h
theorem rngS_ok {F : List Fact} (hF : FOk F) {c : Int} {cs : List Int} {p : Int × Int} (h : rngS F c cs = some p) : p.1 ≤ c + dotL cs Unk.Z ∧ c + dotL cs Unk.Z ≤ p.2 := by
  unfold rngS at h
  split at h
  · rename_i q hq
    cases h
    show q.1 + c ≤ _ ∧ _ ≤ q.2 + c
    unfold rngL at hq
    cases hz : allZ cs with
    | true =>
      rw [hz] at hq; cases hq
      rw [dot_zero cs _ hz]
      exact ⟨by simp, by simp⟩
    | false =>
      rw [hz] at hq
      have := findF_ok hF hq
      omega
  · cases h
theorem inK_ok {k : IntKind} {lo hi n : Int} (h : inK k lo hi = true) (h1 : lo ≤ n) (h2 : n ≤ hi) : wr k n = n ∧ wr k (n - t64) = n ∧ wr k (n + t64) = n := by
  unfold inK at h
  have e : t64 = 18446744073709551616 := rfl
  cases k <;> first | (cases h; done) | skip
  · simp only [Bool.and_eq_true, leI_eq, decide_eq_true_eq] at h
    have a1 : (Int.negSucc 9223372036854775807) = -9223372036854775808 := rfl
    have a2 : (Int.ofNat 9223372036854775807) = 9223372036854775807 := rfl
    rw [a1, a2] at h
    simp only [wr_eq, IntKind.wrap_i64, e]
    omega
  · simp only [Bool.and_eq_true, leI_eq, decide_eq_true_eq] at h
    have a1 : (Int.ofNat 0) = 0 := rfl
    have a2 : (Int.ofNat 18446744073709551615) = 18446744073709551615 := rfl
    rw [a1, a2] at h
    simp only [wr_eq, IntKind.wrap_u64, e]
    omega
theorem fitS_ok {F : List Fact} (hF : FOk F) {k : IntKind} {c : Int} {cs : List Int} {r : Value} (h : fitS F k c cs = some r) : VR μ r (.int k (wr k (c + dotL cs Unk.Z))) := by
  unfold fitS at h
  split at h
  · rename_i p hp
    obtain ⟨b1, b2⟩ := rngS_ok hF hp
    cases h1 : inK k p.1 p.2 with
    | true =>
      rw [h1] at h; cases h
      rw [(inK_ok h1 b1 b2).1]; exact mkS_VR k c cs
    | false =>
      rw [h1] at h
      simp only [cond_false] at h
      cases h2 : inK k (Int.add p.1 t64) (Int.add p.2 t64) with
      | true =>
        rw [h2] at h; cases h
        have g := (inK_ok (n := (c + dotL cs Unk.Z) + t64) h2 (by show p.1 + t64 ≤ _; omega) (by show _ ≤ p.2 + t64; omega)).2.1
        rw [Int.add_sub_cancel] at g
        rw [g]
        have := mkS_VR (μ := μ) k (Int.add c t64) cs
        rwa [show Int.add c t64 + dotL cs Unk.Z = (c + dotL cs Unk.Z) + t64 by show c + t64 + _ = _; omega] at this
      | false =>
        rw [h2] at h
        simp only [cond_false] at h
        cases h3 : inK k (Int.sub p.1 t64) (Int.sub p.2 t64) with
        | true =>
          rw [h3] at h; cases h
          have g := (inK_ok (n := (c + dotL cs Unk.Z) - t64) h3 (by show p.1 - t64 ≤ _; omega) (by show _ ≤ p.2 - t64; omega)).2.2
          rw [Int.sub_add_cancel] at g
          rw [g]
          have := mkS_VR (μ := μ) k (Int.sub c t64) cs
          rwa [show Int.sub c t64 + dotL cs Unk.Z = (c + dotL cs Unk.Z) - t64 by show c - t64 + _ = _; omega] at this
        | false => rw [h3] at h; cases h
  · cases h
theorem bifS {α : Type} {b : Bool} {x : α} {y : Option α} {r : α} (h : (bif b then some x else y) = some r) : (b = true ∧ x = r) ∨ (b = false ∧ y = some r) := by
  cases b
  · exact .inr ⟨rfl, h⟩
  · exact .inl ⟨rfl, Option.some.inj h⟩
def cmp0 : BinOp → Int → Bool
  | .lss, n => decide (n < 0)
  | .leq, n => decide (n ≤ 0)
  | .gtr, n => decide (0 < n)
  | .geq, n => decide (0 ≤ n)
  | .eql, n => decide (n = 0)
  | .neq, n => !decide (n = 0)
  | _, _ => false
theorem ofNat0 : (Int.ofNat 0) = 0 := rfl
theorem cmpS_ok {F : List Fact} (hF : FOk F) {op : BinOp} {c : Int} {cs : List Int} {b : Bool} (h : cmpS F op c cs = some b) : b = cmp0 op (c + dotL cs Unk.Z) ∧ (op = .lss ∨ op = .leq ∨ op = .gtr ∨ op = .geq ∨ op = .eql ∨ op = .neq) := by
  unfold cmpS at h
  split at h
  · rename_i p hp
    obtain ⟨b1, b2⟩ := rngS_ok hF hp
    generalize c + dotL cs Unk.Z = n at *
    cases op <;> dsimp only at h <;> first | (cases h; done) | skip
    all_goals
      simp only [ltI_eq, leI_eq, eqI_eq, ofNat0] at h
      refine ⟨?_, by simp⟩
      rcases bifS h with ⟨g1, rfl⟩ | ⟨_, h⟩
      · simp only [Bool.and_eq_true, Bool.or_eq_true, decide_eq_true_eq, beq_iff_eq] at g1
        simp only [cmp0]
        symm
        first
          | (rw [decide_eq_true_eq]; omega)
          | (rw [Bool.not_eq_false', decide_eq_true_eq]; omega)
      · rcases bifS h with ⟨g1, rfl⟩ | ⟨_, h⟩
        · simp only [Bool.and_eq_true, Bool.or_eq_true, decide_eq_true_eq, beq_iff_eq] at g1
          simp only [cmp0]
          symm
          first
            | (rw [decide_eq_false_iff_not]; omega)
            | (rw [Bool.not_eq_true', decide_eq_false_iff_not]; omega)
        · cases h
  · cases h
theorem cmp_bin {op : BinOp} {k : IntKind} {a b : Int} {t : Bool} (h : t = cmp0 op (a - b)) (ho : op = .lss ∨ op = .leq ∨ op = .gtr ∨ op = .geq ∨ op = .eql ∨ op = .neq) : binV op (.int k a) (.int k b) = some (.bool t) := by
  rcases ho with rfl | rfl | rfl | rfl | rfl | rfl <;> subst h <;> simp only [binV, decide_true, cond_true, intBin, cmp0, ltI_eq, leI_eq, eqI_eq, Option.some.injEq, Value.bool.injEq] <;> first
    | (rw [decide_eq_decide]; omega)
    | (rw [Bool.eq_iff_iff]; simp; omega)
theorem adds2 (a b c d : Int) : Int.add (a + b) (c + d) = Int.add a c + (b + d) := by show (a + b) + (c + d) = a + c + (b + d); omega
theorem mulL (a c d : Int) : Int.mul (a + 0) (c + d) = Int.mul a c + a * d := by show (a + 0) * (c + d) = a * c + a * d; rw [Int.add_zero, Int.mul_add]
theorem mulR (a b c : Int) : Int.mul (a + b) (c + 0) = Int.mul a c + c * b := by show (a + b) * (c + 0) = a * c + c * b; rw [Int.add_zero, Int.add_mul, Int.mul_comm b c]
theorem fit0_ok {F : List Fact} (hF : FOk F) {k : IntKind} {c : Int} {cs : List Int} {r : Value} (h : fit0 F k c cs = some r) : VR μ r (.int k (c + dotL cs Unk.Z)) := by
  unfold fit0 at h
  split at h
  · rename_i p hp
    cases h1 : inK k p.1 p.2 with
    | true => rw [h1] at h; cases h; exact mkS_VR k c cs
    | false => rw [h1] at h; cases h
  · cases h
def TOk (T : List Tab) : Prop := ∀ t ∈ T, TabOk t
theorem lookT_ok {n : Nat} {x y z : List Int} : ∀ {T : List Tab}, TOk T → lookT n x y T = some z → TabOk (n, x, y, z)
  | [], _, h => by cases h
  | t :: T, hT, h => by
    unfold lookT at h
    cases hb : (Nat.beq t.1 n && eqLI t.2.1 x && eqLI t.2.2.1 y) with
    | true =>
      rw [hb] at h; cases h
      rw [Bool.and_eq_true, Bool.and_eq_true] at hb
      have h1 := Nat.eq_of_beq_eq_true hb.1.1
      have h2 := eqLI_eq hb.1.2
      have h3 := eqLI_eq hb.2
      have := hT t (by simp)
      rw [← h1, ← h2, ← h3]; exact this
    | false => rw [hb] at h; exact lookT_ok (fun u hu => hT u (by simp [hu])) h
theorem shrS_ok {F : List Fact} (hF : FOk F) {u v u' v' r : Value} (h : shrS F u v = some r) (hu : VR μ u u') (hv : VR μ v v') :
    ∃ k k' a b, u' = .int k a ∧ v' = .int k' b ∧ binV .shr (.int k a) (.int k' b) = some r := by
  unfold shrS at h
  split at h
  · rename_i x k' n hx
    have eu := asL_ok hx hu
    cases hv
    split at h
    · rename_i p hp
      obtain ⟨b1, b2⟩ := rngS_ok hF hp
      cases hb : eqI (Int.fdiv p.1 (.ofNat (Nat.pow 2 (Nat.min n x.1.bits)))) (Int.fdiv p.2 (.ofNat (Nat.pow 2 (Nat.min n x.1.bits)))) with
      | false => rw [hb] at h; cases h
      | true =>
        rw [hb] at h; cases h
        rw [eqI_eq, beq_iff_eq] at hb
        refine ⟨x.1, k', _, .ofNat n, eu, rfl, ?_⟩
        simp only [binV, shiftV, Option.some.injEq, Value.int.injEq, true_and]
        have hpos : (0 : Int) < Int.ofNat (Nat.pow 2 (Nat.min n x.1.bits)) := by
          have : 0 < Nat.pow 2 (Nat.min n x.1.bits) := Nat.pow_pos (by omega)
          exact Int.ofNat_lt.2 this
        generalize Int.ofNat (Nat.pow 2 (Nat.min n x.1.bits)) = d at *
        rw [Int.fdiv_eq_ediv_of_nonneg _ (by omega), Int.fdiv_eq_ediv_of_nonneg _ (by omega)] at hb
        rw [Int.fdiv_eq_ediv_of_nonneg _ (by omega), Int.fdiv_eq_ediv_of_nonneg _ (by omega)]
        have h1 := Int.ediv_le_ediv hpos b1
        have h2 := Int.ediv_le_ediv hpos b2
        omega
    · cases h
  · cases h
theorem symBin_ok {F : List Fact} (hF : FOk F) {T : List Tab} (hT : TOk T) {op : BinOp} {u v u' v' r : Value} (h : symBin F T op u v = some r) (hu : VR μ u u') (hv : VR μ v v') :
    ∃ k a b r1, u' = .int k a ∧ v' = .int k b ∧ binV op (.int k a) (.int k b) = some r1 ∧ VR μ r r1 := by
  unfold symBin at h
  split at h
  · rename_i x y hx hy
    have eu := asL_ok hx hu
    have ev := asL_ok hy hv
    cases hk : decide (x.1 = y.1) with
    | false => rw [hk] at h; cases h
    | true =>
      rw [hk] at h
      simp only [cond_true] at h
      have hk := of_decide_eq_true hk
      rw [← hk] at ev
      refine ⟨x.1, x.2.1 + dotL x.2.2 Unk.Z, y.2.1 + dotL y.2.2 Unk.Z, ?_⟩
      have adds : ∀ (a b c d : Int), Int.sub a b + (c + -d) = a + c - (b + d) := fun a b c d => by show a - b + _ = _; omega
      split at h
      · refine ⟨_, eu, ev, by simp only [binV, decide_true, cond_true, intBin]; rfl, ?_⟩
        have := fitS_ok (μ := μ) hF h
        rw [dot_add] at this
        rw [adds2]; exact this
      · refine ⟨_, eu, ev, by simp only [binV, decide_true, cond_true, intBin]; rfl, ?_⟩
        have := fitS_ok (μ := μ) hF h
        rw [dot_add, dot_neg, adds] at this
        exact this
      · refine ⟨_, eu, ev, by simp only [binV, decide_true, cond_true, intBin]; rfl, ?_⟩
        cases hz : allZ x.2.2 with
        | true =>
          rw [hz] at h
          simp only [cond_true] at h
          have := fitS_ok (μ := μ) hF h
          rw [dot_scale] at this
          rw [dot_zero _ _ hz]
          rw [mulL]; exact this
        | false =>
          rw [hz] at h
          simp only [cond_false] at h
          cases hz2 : allZ y.2.2 with
          | false =>
            rw [hz2] at h
            simp only [cond_false] at h
            split at h
            · rename_i e es hl
              have := fitS_ok (μ := μ) hF h
              have g := (lookT_ok hT hl).1 rfl
              have g : e + dotL es Unk.Z = Int.mul (x.2.1 + dotL x.2.2 Unk.Z) (y.2.1 + dotL y.2.2 Unk.Z) := g
              rw [← g]; exact this
            · cases h
          | true =>
            rw [hz2] at h
            simp only [cond_true] at h
            have := fitS_ok (μ := μ) hF h
            rw [dot_scale] at this
            rw [dot_zero _ _ hz2]
            rw [mulR]; exact this
      · split at h
        · rename_i e es hl
          have := fitS_ok (μ := μ) hF h
          obtain ⟨g0, g⟩ := (lookT_ok hT hl).2.1 rfl
          have g0 : y.2.1 + dotL y.2.2 Unk.Z ≠ 0 := g0
          have g : e + dotL es Unk.Z = Int.tdiv (x.2.1 + dotL x.2.2 Unk.Z) (y.2.1 + dotL y.2.2 Unk.Z) := g
          rw [g] at this
          refine ⟨_, eu, ev, ?_, this⟩
          have hn : eqI (y.2.1 + dotL y.2.2 Unk.Z) (.ofNat 0) = false := by rw [eqI_eq, beq_eq_false_iff_ne]; exact g0
          simp only [binV, decide_true, cond_true, intBin, hn, cond_false]
        · cases h
      · split at h
        · rename_i e es hl
          have := fit0_ok (μ := μ) hF h
          obtain ⟨g0, g⟩ := (lookT_ok hT hl).2.2 rfl
          have g0 : y.2.1 + dotL y.2.2 Unk.Z ≠ 0 := g0
          have g : e + dotL es Unk.Z = Int.tmod (x.2.1 + dotL x.2.2 Unk.Z) (y.2.1 + dotL y.2.2 Unk.Z) := g
          rw [g] at this
          refine ⟨_, eu, ev, ?_, this⟩
          have hn : eqI (y.2.1 + dotL y.2.2 Unk.Z) (.ofNat 0) = false := by rw [eqI_eq, beq_eq_false_iff_ne]; exact g0
          simp only [binV, decide_true, cond_true, intBin, hn, cond_false]
        · cases h
      · split at h
        · rename_i b hb
          cases h
          obtain ⟨g1, g2⟩ := cmpS_ok hF hb
          rw [dot_add, dot_neg, adds] at g1
          exact ⟨_, eu, ev, cmp_bin g1 g2, .bool _⟩
        · cases h
  · cases h
theorem binVS_cases {F : List Fact} {T : List Tab} {op : BinOp} {x y v : Value} (h : binVS F T op x y = some v) : binV op x y = some v ∨ symBin F T op x y = some v ∨ (op = .shr ∧ shrS F x y = some v) := by
  unfold binVS at h
  split at h
  · split at h
    · exact .inl h
    · exact .inr (.inl h)
  · split at h
    · exact .inl h
    · cases h
  · split at h
    · exact .inr (.inr ⟨rfl, h⟩)
    · exact .inr (.inl h)
theorem eqVS_cases {F : List Fact} {T : List Tab} {d : TypeDesc} {ne : Bool} {x y v : Value} (h : eqVS F T d ne x y = some v) : eqV d ne x y = some v ∨ symBin F T (eqOp ne) x y = some v := by
  unfold eqVS at h
  split at h
  · rcases binVS_cases h with h | h | ⟨h, _⟩
    · exact .inl h
    · exact .inr h
    · cases ne <;> cases h
  · exact .inl h
  · rename_i h1 h2
    split at h
    · rename_i b hb
      refine .inl ?_
      unfold eqV
      split
      · rename_i k n; exact absurd rfl (h1 k n)
      · rename_i s; exact absurd rfl (h2 s)
      · rw [hb]; exact h
    · exact .inr h
theorem ok_binS {F : List Fact} (hF : FOk F) {T : List Tab} (hT : TOk T) {op : BinOp} {t u : TypeId} {x y : Operand} (ho : o.op = .binOp op t x y u) : PureOk P o fun ρ => binVS F T op (ρ x) (ρ y) := by
  intro μ ρ ρ' w v h e
  have h1 := mem_ops h ho (x := x) (by simp [Op.operands])
  have h2 := mem_ops h ho (x := y) (by simp [Op.operands])
  rcases binVS_cases e with q | q | ⟨rfl, q⟩
  · exact ok_bin ho μ ρ ρ' w v h q
  · obtain ⟨k, a, b, r1, e1, e2, e3, e4⟩ := symBin_ok hF hT q h1 h2
    have := binV_ok (P := P) (μ := μ) (.int k a) (.int k b) e3 w t x y
    refine ⟨r1, ?_, e4⟩
    unfold execOp; rw [ho]; rw [← e1, ← e2] at this; exact run_v this.1
  · obtain ⟨k, k', a, b, e1, e2, e3⟩ := shrS_ok hF q h1 h2
    have := binV_ok (P := P) (μ := μ) (.int k a) (.int k' b) e3 w t x y
    refine ⟨v, ?_, this.2⟩
    unfold execOp; rw [ho]; rw [← e1, ← e2] at this; exact run_v this.1
theorem ok_eqS {F : List Fact} (hF : FOk F) {T : List Tab} (hT : TOk T) {ne : Bool} {t u : TypeId} {x y : Operand} {i : TI} (C : CxOk P cx) (ht : cx.ti t = some i) (ho : o.op = .binOp (eqOp ne) t x y u) : PureOk P o fun ρ => eqVS F T i.desc ne (ρ x) (ρ y) := by
  intro μ ρ ρ' w v h e
  rcases eqVS_cases e with e | e
  · exact ok_eq C ht ho μ ρ ρ' w v h e
  · have h1 := mem_ops h ho (x := x) (by simp [Op.operands])
    have h2 := mem_ops h ho (x := y) (by simp [Op.operands])
    obtain ⟨k, a, b, r1, e1, e2, e3, e4⟩ := symBin_ok hF hT e h1 h2
    have := binV_ok (P := P) (μ := μ) (.int k a) (.int k b) e3 w t x y
    refine ⟨r1, ?_, e4⟩
    unfold execOp; rw [ho]; rw [← e1, ← e2] at this; exact run_v this.1
theorem ok_unS {F : List Fact} (hF : FOk F) {op : UnOp} {t : TypeId} {x : Operand} (ho : o.op = .unOp op t x) : PureOk P o fun ρ => unVS F op (ρ x) := by
  intro μ ρ ρ' w v h e
  dsimp only at e
  unfold unVS at e
  split at e
  · rename_i v1 hv1
    cases e
    exact ok_un ho μ ρ ρ' w v h hv1
  · have h1 := mem_ops h ho (x := x) (by simp [Op.operands])
    cases op <;> cases hy : asL (ρ x) <;> rw [hy] at e <;> first
      | (cases e; done)
      | skip
    rename_i y
    have e1 := asL_ok hy h1
    have := fitS_ok (μ := μ) hF e
    rw [dot_neg, show Int.neg y.2.1 + - dotL y.2.2 Unk.Z = - (y.2.1 + dotL y.2.2 Unk.Z) by show - _ + _ = _; omega, wr_eq] at this
    exact ⟨_, by simp [execOp, ho, e1, Op.unary, Op.intArith], this⟩
theorem ok_convIS {F : List Fact} (hF : FOk F) {a b : TypeId} {x : Operand} {k k' : IntKind} {si di : TI} (C : CxOk P cx) (hs : cx.ti a = some si) (hd : cx.ti b = some di) (h1 : si.desc = .int k') (h2 : di.desc = .int k) (ho : o.op = .convert a b x) :
    PureOk P o fun ρ => convS F k (ρ x) := by
  intro μ ρ ρ' w v h e
  dsimp only at e
  unfold convS at e
  split at e
  · rename_i q n hq
    refine ok_convI C hs hd h1 h2 ho μ ρ ρ' w v h ?_
    dsimp only; rw [hq]; exact e
  · split at e
    · rename_i y hy
      have hc := mem_ops h ho (x := x) (by simp [Op.operands])
      have e1 := asL_ok hy hc
      have u1 := C.run_und hs w
      have u2 := C.run_und hd w
      exact ⟨.int k (k.wrap (y.2.1 + dotL y.2.2 Unk.Z)), by simp [execOp, ho, e1, convert, u1, u2, h1, h2, Conv.intToInt], by have := fitS_ok (μ := μ) hF e; rwa [wr_eq] at this⟩
    · cases e
theorem ok_minS {F : List Fact} (hF : FOk F) {x y : Operand} {ts : Array TypeId} (ho : o.op = .call { callee := .builtin .min, args := #[x, y], argTypes := ts }) :
    PureOk P o fun ρ => match ρ x, ρ y with | .int k a, .int _ b => some (.int k (bif ltI b a then b else a)) | u, v => minS F false u v := by
  intro μ ρ ρ' w v h e
  dsimp only at e
  split at e
  · rename_i k a k' b hq hq'
    refine ok_min ho μ ρ ρ' w v h ?_
    dsimp only; rw [hq, hq']; exact e
  · have h1 := mem_ops h ho (x := x) (by simp [Op.operands, Call.operands])
    have h2 := mem_ops h ho (x := y) (by simp [Op.operands, Call.operands])
    unfold minS at e
    split at e
    · rename_i p q hp hq
      have e1 := asL_ok hp h1
      have e2 := asL_ok hq h2
      cases hk : decide (p.1 = q.1) with
      | false => rw [hk] at e; cases e
      | true =>
        rw [hk] at e
        simp only [cond_true] at e
        have hk := of_decide_eq_true hk
        rw [← hk] at e2 e
        have run : ∀ z : Int, (if q.2.1 + dotL q.2.2 Unk.Z < p.2.1 + dotL p.2.2 Unk.Z then q.2.1 + dotL q.2.2 Unk.Z else p.2.1 + dotL p.2.2 Unk.Z) = z → (execOp ρ' o).run P w = .ok (.value (.int p.1 z)) w := fun z hz => by
          subst hz
          simp [execOp, ho, e1, e2, resolve, invoke, builtin, Builtin.min_, Builtin.min2]
        split at e
        · rename_i hb
          cases e
          obtain ⟨g, _⟩ := cmpS_ok hF hb
          rw [dot_add, dot_neg] at g
          have g : q.2.1 + dotL q.2.2 Unk.Z < p.2.1 + dotL p.2.2 Unk.Z := by
            have g := of_decide_eq_true g.symm
            have e : Int.sub q.2.1 p.2.1 = q.2.1 - p.2.1 := rfl
            omega
          exact ⟨_, run _ (if_pos g), mkS_VR _ _ _⟩
        · rename_i hb
          cases e
          obtain ⟨g, _⟩ := cmpS_ok hF hb
          rw [dot_add, dot_neg] at g
          have g : ¬ q.2.1 + dotL q.2.2 Unk.Z < p.2.1 + dotL p.2.2 Unk.Z := by
            have g := of_decide_eq_false g.symm
            have e : Int.sub q.2.1 p.2.1 = q.2.1 - p.2.1 := rfl
            omega
          exact ⟨_, run _ (if_neg g), mkS_VR _ _ _⟩
        · cases e
    · cases e
theorem ok_maxS {F : List Fact} (hF : FOk F) {x y : Operand} {ts : Array TypeId} (ho : o.op = .call { callee := .builtin .max, args := #[x, y], argTypes := ts }) :
    PureOk P o fun ρ => match ρ x, ρ y with | .int k a, .int _ b => some (.int k (bif ltI a b then b else a)) | u, v => minS F true u v := by
  intro μ ρ ρ' w v h e
  dsimp only at e
  split at e
  · rename_i k a k' b hq hq'
    refine ok_max ho μ ρ ρ' w v h ?_
    dsimp only; rw [hq, hq']; exact e
  · have h1 := mem_ops h ho (x := x) (by simp [Op.operands, Call.operands])
    have h2 := mem_ops h ho (x := y) (by simp [Op.operands, Call.operands])
    unfold minS at e
    split at e
    · rename_i p q hp hq
      have e1 := asL_ok hp h1
      have e2 := asL_ok hq h2
      cases hk : decide (p.1 = q.1) with
      | false => rw [hk] at e; cases e
      | true =>
        rw [hk] at e
        simp only [cond_true] at e
        have hk := of_decide_eq_true hk
        rw [← hk] at e2 e
        have run : ∀ z : Int, (if p.2.1 + dotL p.2.2 Unk.Z < q.2.1 + dotL q.2.2 Unk.Z then q.2.1 + dotL q.2.2 Unk.Z else p.2.1 + dotL p.2.2 Unk.Z) = z → (execOp ρ' o).run P w = .ok (.value (.int p.1 z)) w := fun z hz => by
          subst hz
          simp [execOp, ho, e1, e2, resolve, invoke, builtin, Builtin.max_, Builtin.max2]
        split at e
        · rename_i hb
          cases e
          obtain ⟨g, _⟩ := cmpS_ok hF hb
          rw [dot_add, dot_neg] at g
          have g : p.2.1 + dotL p.2.2 Unk.Z < q.2.1 + dotL q.2.2 Unk.Z := by
            have g := of_decide_eq_true g.symm
            have e : Int.sub p.2.1 q.2.1 = p.2.1 - q.2.1 := rfl
            omega
          exact ⟨_, run _ (if_pos g), mkS_VR _ _ _⟩
        · rename_i hb
          cases e
          obtain ⟨g, _⟩ := cmpS_ok hF hb
          rw [dot_add, dot_neg] at g
          have g : ¬ p.2.1 + dotL p.2.2 Unk.Z < q.2.1 + dotL q.2.2 Unk.Z := by
            have g := of_decide_eq_false g.symm
            have e : Int.sub p.2.1 q.2.1 = p.2.1 - q.2.1 := rfl
            omega
          exact ⟨_, run _ (if_neg g), mkS_VR _ _ _⟩
        · cases e
    · cases e
end Go.EvM
namespace Go.EvM
set_option linter.unusedSectionVars false
variable [GLs]
open Go.RowKit
set_option linter.unusedVariables false
variable {P : Program} {cx : Cx} {o : Oper}
def CellsR (μ : Mu) (t : Tr Value) (n : Nat) (cs : Array Value) : Prop :=
  cs.size = n ∧ (∀ j, n ≤ j → t.get j = none) ∧ ∀ j, j < n → ∃ a v, t.get j = some a ∧ cs[j]? = some v ∧ VR μ a v ∧ oneB a = true
theorem CellsR.ofL {μ : Mu} {l : List Value} {cs : Array Value} (h : VRs μ l cs.toList) (h1 : ∀ x ∈ l, oneB x = true) : CellsR μ (Tr.ofL l) l.length cs := by
  refine ⟨by rw [← h.length]; simp, fun j hj => by rw [Tr.get_ofL]; exact List.getElem?_eq_none hj, fun j hj => ?_⟩
  obtain ⟨v, hv, hr⟩ := h.get (List.getElem?_eq_getElem hj)
  exact ⟨l[j], v, by rw [Tr.get_ofL]; exact List.getElem?_eq_getElem hj, by simpa using hv, hr, h1 _ (List.getElem_mem hj)⟩
theorem fold_set (off : Nat) : ∀ (l : List Value) (k : Nat) (cs : Array Value), off + k + l.length ≤ cs.size →
    ((l.zipIdx k).foldl (fun cs (p : Value × Nat) => cs.setIfInBounds (off + p.2) p.1) cs).size = cs.size ∧
    ∀ m, ((l.zipIdx k).foldl (fun cs (p : Value × Nat) => cs.setIfInBounds (off + p.2) p.1) cs)[m]? = if off + k ≤ m ∧ m < off + k + l.length then l[m - (off + k)]? else cs[m]?
  | [], k, cs, _ => ⟨rfl, fun m => by rw [if_neg (by simp)]; rfl⟩
  | v :: l, k, cs, h => by
    have hk : off + k < cs.size := by simp at h; omega
    obtain ⟨h1, h2⟩ := fold_set off l (k + 1) (cs.setIfInBounds (off + k) v) (by simp at h ⊢; omega)
    rw [List.zipIdx_cons, List.foldl_cons]
    refine ⟨by rw [h1]; simp, fun m => ?_⟩
    rw [h2]
    by_cases hm : m = off + k
    · subst hm
      rw [if_neg (by omega), if_pos (by simp)]
      simp [hk]
    · by_cases h3 : off + (k + 1) ≤ m ∧ m < off + (k + 1) + l.length
      · rw [if_pos h3, if_pos (by simp; omega)]
        obtain ⟨q, rfl⟩ : ∃ q, m = off + k + (q + 1) := ⟨m - (off + k) - 1, by omega⟩
        rw [show off + k + (q + 1) - (off + (k + 1)) = q from by omega, show off + k + (q + 1) - (off + k) = q + 1 from by omega]; simp
      · rw [if_neg h3, if_neg (by simp; omega)]
        rw [Array.getElem?_setIfInBounds_ne (by omega)]
theorem cellsL_ok {μ : Mu} {v v' : Value} {cs : List Value} (h : VR μ v v') (e : cellsL v = some cs) : VRs μ cs v'.cells.toList ∧ ∀ x ∈ cs, oneB x = true := by
  unfold cellsL at e
  split at e
  · cases e; cases h with
    | agg hl h1 => exact ⟨hl, h1⟩
  · cases e
  · rename_i v0 n1 n2
    cases e
    have hone : oneB v = true := by
      cases v <;> first | rfl | (exact (n1 _ rfl).elim) | (exact (n2 _ rfl).elim)
    have hc : v'.cells = #[v'] := by
      have := h.one; rw [hone] at this
      cases v' <;> first | rfl | (exact nomatch this)
    rw [hc]
    exact ⟨.cons h .nil, fun x hx => by simp at hx; subst hx; exact hone⟩
theorem fill_ok {μ : Mu} {n : Nat} {place place' : Nat → Option (Nat × Nat)} (hp : ∀ j p, place j = some p → place' j = some p) :
    ∀ (l : List (Nat × Value)) (l' : List (Nat × Value)) (t t' : Tr Value) (cs : Array Value), CellsR μ t n cs → l'.map (·.1) = l.map (·.1) → VRs μ (l.map (·.2)) (l'.map (·.2)) → fillL t n place l = some t' →
    ∃ cs', Instr.fill place' cs l' = some cs' ∧ CellsR μ t' n cs'
  | [], [], t, t', cs, hc, _, _, e => by
    unfold fillL at e; cases e; exact ⟨cs, rfl, hc⟩
  | [], _ :: _, _, _, _, _, h, _, _ => by simp at h
  | _ :: _, [], _, _, _, _, h, _, _ => by simp at h
  | (i, v) :: l, (i', v') :: l', t, t', cs, hc, h, hv, e => by
    simp at h
    obtain ⟨rfl, h⟩ := h
    simp at hv
    cases hv with
    | cons hv0 hvs =>
      unfold fillL at e
      cases hpl : place i' with
      | none => rw [hpl] at e; cases e
      | some q =>
        obtain ⟨off, size⟩ := q
        rw [hpl] at e; dsimp only at e
        cases hcl : cellsL v with
        | none => rw [hcl] at e; cases e
        | some cl =>
          rw [hcl] at e; dsimp only at e
          cases hb : (Nat.beq cl.length size && Nat.ble (Nat.add off size) n) with
          | false => rw [hb] at e; cases e
          | true =>
            rw [hb] at e
            simp only [Bool.and_eq_true] at hb
            have hb1 : cl.length = size := Nat.eq_of_beq_eq_true hb.1
            have hb2 : off + size ≤ n := Nat.le_of_ble_eq_true hb.2
            obtain ⟨hcv, h1⟩ := cellsL_ok hv0 hcl
            obtain ⟨c1, c2, c3⟩ := hc
            have hlen : v'.cells.toList.length = size := by rw [hcv.length, hb1]
            have hlen' : v'.cells.size = size := by simpa using hlen
            obtain ⟨f1, f2⟩ := fold_set off v'.cells.toList 0 cs (by rw [hlen, c1]; omega)
            have hfold : v'.cells.zipIdx.foldl (fun cs (p : Value × Nat) => cs.setIfInBounds (off + p.2) p.1) cs = (v'.cells.toList.zipIdx 0).foldl (fun cs (p : Value × Nat) => cs.setIfInBounds (off + p.2) p.1) cs := by
              rw [← Array.foldl_toList]; simp
            have hC : CellsR μ (Tr.putL cl off t) n (v'.cells.zipIdx.foldl (fun cs (p : Value × Nat) => cs.setIfInBounds (off + p.2) p.1) cs) := by
              rw [hfold]
              refine ⟨by rw [f1, c1], fun j hj => by rw [Tr.get_putL, if_neg (by omega)]; exact c2 j hj, fun j hj => ?_⟩
              rw [Tr.get_putL, f2]
              by_cases hin : off ≤ j ∧ j < off + cl.length
              · rw [if_pos hin, if_pos (by rw [hlen]; omega)]
                have hlt : j - off < cl.length := by omega
                obtain ⟨u, hu, hr⟩ := hcv.get (List.getElem?_eq_getElem hlt)
                exact ⟨_, u, List.getElem?_eq_getElem hlt, by rw [Nat.add_zero]; exact hu, hr, h1 _ (List.getElem_mem hlt)⟩
              · rw [if_neg hin, if_neg (by rw [hlen]; omega)]; exact c3 j hj
            obtain ⟨cs', g1, g2⟩ := fill_ok hp l l' _ t' _ hC h hvs e
            refine ⟨cs', ?_, g2⟩
            rw [Instr.fill, hp i' _ hpl]
            dsimp only
            rw [if_neg (by rw [hlen', c1]; simp; omega)]
            exact g1
theorem parts_ok {μ : Mu} {ρ ρ' : Env} {ps : Array (Nat × Operand)} (h : ∀ p ∈ ps.toList, VR μ (ρ p.2) (ρ' p.2)) :
    ((ps.map fun (i, x) => (i, ρ' x)).toList.map (·.1) = (partsOf ρ ps).map (·.1)) ∧ VRs μ ((partsOf ρ ps).map (·.2)) ((ps.map fun (i, x) => (i, ρ' x)).toList.map (·.2)) := by
  obtain ⟨ps⟩ := ps
  constructor
  · simp [partsOf]
  · simp only [partsOf, List.map_map, List.map_toArray]
    exact VRs.map (fun p hp => h p hp)
theorem CellsR.list {μ : Mu} {t : Tr Value} {n : Nat} {cs : Array Value} (h : CellsR μ t n cs) {l : List Value} (hl : t.getL n 0 = some l) : VRs μ l cs.toList ∧ ∀ x ∈ l, oneB x = true := by
  obtain ⟨g1, g2⟩ := Tr.getL_spec t n 0 l hl
  obtain ⟨c1, c2, c3⟩ := h
  refine ⟨VRs.mk (by simp [c1, g1]) fun j a v ha hv => ?_, fun x hx => ?_⟩
  · have hj : j < n := by rw [← g1]; exact (List.getElem?_eq_some_iff.1 ha).1
    obtain ⟨a', v', p, q, r, s⟩ := c3 j hj
    have := g2 j hj
    rw [Nat.zero_add, p, ha] at this
    cases this
    have hv' : cs[j]? = some v := by simpa using hv
    rw [q] at hv'; cases hv'; exact r
  · obtain ⟨j, hj⟩ := List.mem_iff_getElem?.1 hx
    have hjn : j < n := by rw [← g1]; exact (List.getElem?_eq_some_iff.1 hj).1
    obtain ⟨a', v', p, q, r, s⟩ := c3 j hjn
    have := g2 j hjn
    rw [Nat.zero_add, p, hj] at this
    cases this; exact s
theorem placesL_ok (C : CxOk P cx) : ∀ (fs : List Field) (pl : List (Nat × Nat)), placesL cx fs = some pl → fs.mapM (fun f => (P.info? f.type).map fun i => (f.offset, i.size)) = some pl
  | [], pl, e => by unfold placesL at e; cases e; rfl
  | f :: fs, pl, e => by
    unfold placesL at e
    cases hi : cx.ti f.type with
    | none => rw [hi] at e; cases e
    | some i =>
      rw [hi] at e; dsimp only at e
      cases hr : placesL cx fs with
      | none => rw [hr] at e; cases e
      | some r =>
        rw [hr] at e; cases e
        obtain ⟨g, z, h1, h2, h3, _⟩ := C.ti _ _ hi
        simp [List.mapM_cons, h1, h3, placesL_ok C fs r hr]
theorem ok_buildS {t : TypeId} {ps : Array (Nat × Operand)} {i : TI} {fs : Array Field} {pl : List (Nat × Nat)} (C : CxOk P cx) (ht : cx.ti t = some i) (hd : i.desc = .struct fs) (hpl : placesL cx fs.toList = some pl) (ho : o.op = .build t ps) :
    PureOk P o fun ρ => buildS pl i.zero i.size (partsOf ρ ps) := by
  intro μ ρ ρ' w v h e
  dsimp only at e
  unfold buildS at e
  split at e
  · rename_i tr htr
    split at e
    · rename_i l hl
      cases e
      obtain ⟨f, z, h1, h2, h3, h4, h5, h6, h7, h8⟩ := C.ti t i ht
      obtain ⟨p1, p2⟩ := parts_ok (μ := μ) (ρ := ρ) (ρ' := ρ') (ps := ps) (fun p hp => mem_ops h ho (by simp [Op.operands]; exact ⟨p.1, by simpa using hp⟩))
      have hz : CellsR μ (Tr.ofL i.zero) i.size z.cells := by
        have := CellsR.ofL (μ := μ) (l := i.zero) (cs := z.cells) (by rw [h6]; exact C.zero_VRs ht μ) (C.zero_one ht)
        rwa [h7] at this
      obtain ⟨cs', g1, g2⟩ := fill_ok (place' := (pl.toArray[·]?)) (fun j p hj => by rw [nth_eq] at hj; simpa using hj) _ _ _ _ _ hz p1 p2 htr
      obtain ⟨q1, q2⟩ := g2.list hl
      refine ⟨.agg cs', ?_, VR.agg q1 q2⟩
      have hb : P.built t (ps.map fun (i, x) => (i, ρ' x)).toList = some cs' := by
        simp only [Program.built, h1, h2, hd, h5, placesL_ok C _ _ hpl]; exact g1
      unfold execOp; rw [ho]; exact run_v (run_build w t _ _ hb)
    · cases e
  · cases e
theorem ok_buildA {t e : TypeId} {ps : Array (Nat × Operand)} {i ei : TI} {n : Nat} (C : CxOk P cx) (ht : cx.ti t = some i) (hd : i.desc = .array n e) (he : cx.ti e = some ei) (ho : o.op = .build t ps) :
    PureOk P o fun ρ => buildA ei.size i.zero i.size (partsOf ρ ps) := by
  intro μ ρ ρ' w v h e
  dsimp only at e
  unfold buildA at e
  split at e
  · rename_i tr htr
    split at e
    · rename_i l hl
      cases e
      obtain ⟨f, z, h1, h2, h3, h4, h5, h6, h7, h8⟩ := C.ti t i ht
      obtain ⟨f', z', h1', h2', h3', _⟩ := C.ti _ ei he
      obtain ⟨p1, p2⟩ := parts_ok (μ := μ) (ρ := ρ) (ρ' := ρ') (ps := ps) (fun p hp => mem_ops h ho (by simp [Op.operands]; exact ⟨p.1, by simpa using hp⟩))
      have hz : CellsR μ (Tr.ofL i.zero) i.size z.cells := by
        have := CellsR.ofL (μ := μ) (l := i.zero) (cs := z.cells) (by rw [h6]; exact C.zero_VRs ht μ) (C.zero_one ht)
        rwa [h7] at this
      obtain ⟨cs', g1, g2⟩ := fill_ok (place' := fun i => some (i * f'.size, f'.size)) (fun j p hj => by rw [h3']; exact hj) _ _ _ _ _ hz p1 p2 htr
      obtain ⟨q1, q2⟩ := g2.list hl
      refine ⟨.agg cs', ?_, VR.agg q1 q2⟩
      have hb : P.built t (ps.map fun (i, x) => (i, ρ' x)).toList = some cs' := by
        simp only [Program.built, h1, h2, hd, h5, h1']; exact g1
      unfold execOp; rw [ho]; exact run_v (run_build w t _ _ hb)
    · cases e
  · cases e
end Go.EvM
namespace Go.EvM
set_option linter.unusedSectionVars false
variable [GLs]
open Go.RowKit
set_option linter.unusedVariables false
variable {P : Program} {cx : Cx} {o : Oper}
def LookOk (P : Program) (o : Oper) (f : Env → Hp → Option Value) : Prop :=
  ∀ (W : World) (μ : Mu) (ρ ρ' : Env) (h : Hp) (w : World) (v : Value), Ops o μ ρ ρ' → Rel W μ h w → f ρ h = some v → ∃ v', (execOp ρ' o).run P w = .ok (.value v') w ∧ VR μ v v'
theorem Rel.gcell {W : World} {μ : Mu} {h : Hp} {w : World} (R : Rel W μ h w) (C : CxOk P cx) {g : Nat} {c : Tr Value} (hg : cx.gl g = some c) {j : Nat} {a : Value} (hc : c.get j = some a) :
    w.cell? ⟨g, j, none⟩ = some a ∧ VR μ a a ∧ oneB a = true := by
  obtain ⟨cs, h1, h2⟩ := C.gl g c hg
  obtain ⟨e, fz, h3⟩ := R.gl.mono R.below g cs h1
  rw [h2] at hc
  obtain ⟨p1, p2⟩ := GLs.plain g cs h1 a (List.mem_of_getElem? hc)
  exact ⟨by simp [World.cell?, h3, hc], plain_VR μ 4 a p1, p2⟩
theorem Rel.run_gcells {W : World} {μ : Mu} {h : Hp} {w : World} (R : Rel W μ h w) (C : CxOk P cx) {g : Nat} {c : Tr Value} (hg : cx.gl g = some c) {k off : Nat} {l : List Value} (hl : c.getL k off = some l) :
    VRs μ l l ∧ (∀ x ∈ l, oneB x = true) ∧ (loadCells ⟨g, off, none⟩ k).run P w = .ok l.toArray w := by
  obtain ⟨e1, e2⟩ := Tr.getL_spec c k off l hl
  have hcell : ∀ (j : Nat) (v : Value), l[j]? = some v → w.cell? ⟨g, off + j, none⟩ = some v ∧ VR μ v v ∧ oneB v = true := fun j v hv => by
    have hj : j < k := by rw [← e1]; exact (List.getElem?_eq_some_iff.1 hv).1
    exact R.gcell C hg ((e2 j hj).trans hv)
  refine ⟨VRs.mk rfl fun j a v h1 h2 => ?_, fun x hx => ?_, ?_⟩
  · rw [h1] at h2; cases h2; exact (hcell j a h1).2.1
  · obtain ⟨j, hj⟩ := List.mem_iff_getElem?.1 hx
    exact (hcell j x hj).2.2
  · rw [← e1]
    exact run_loadCells_list w _ l fun j v hv => by rw [add_off]; exact (hcell j v hv).1
theorem ok_load1 {t : TypeId} {a : Operand} {i : TI} (C : CxOk P cx) (ht : cx.ti t = some i) (hd : isAggB i.desc = false) (ho : o.op = .load t a) :
    LookOk P o fun ρ h => match ptrV (ρ a) with | some (b, off) => load1 h b off | none => match gptrV (ρ a) with | some (g, off) => loadG1 cx g off | none => none := by
  intro W μ ρ ρ' h w v hop R e
  have hc := mem_ops hop ho (x := a) (by simp [Op.operands])
  dsimp only at e
  split at e
  · rename_i b off hp
    rw [ptrV_eq hp] at hc
    generalize hr : ρ' a = r at hc
    cases hc with
    | ptr _ hb =>
      rename_i bi
      unfold load1 at e
      split at e
      · rename_i c n z ti ro hob
        obtain ⟨hj, u, hu, hv, _⟩ := R.cell hb hob e
        have hag := C.run_isAgg ht w
        rw [hd] at hag
        refine ⟨u, ?_, hv⟩
        simp [execOp, ho, hr, Instr.loadAt, Instr.sureAddr, loadVar, hag, hu]
      · cases e
  · split at e
    · rename_i g off hp
      obtain ⟨sp, hsp⟩ := gptrV_eq hp
      rw [hsp] at hc
      generalize hr : ρ' a = r at hc
      cases hc with
      | gptr _ _ =>
        unfold loadG1 at e
        split at e
        · rename_i c hg
          obtain ⟨hu, hv, _⟩ := R.gcell C hg e
          have hag := C.run_isAgg ht w
          rw [hd] at hag
          refine ⟨v, ?_, hv⟩
          simp [execOp, ho, hr, Instr.loadAt, Instr.sureAddr, loadVar, hag, hu]
        · cases e
    · cases e
theorem ok_loadA {t : TypeId} {a : Operand} {i : TI} (C : CxOk P cx) (ht : cx.ti t = some i) (hd : isAggB i.desc = true) (ho : o.op = .load t a) :
    LookOk P o fun ρ h => match ptrV (ρ a) with | some (b, off) => loadA h i.size b off | none => match gptrV (ρ a) with | some (g, off) => loadGA cx i.size g off | none => none := by
  intro W μ ρ ρ' h w v hop R e
  have hc := mem_ops hop ho (x := a) (by simp [Op.operands])
  dsimp only at e
  split at e
  · rename_i b off hp
    rw [ptrV_eq hp] at hc
    generalize hr : ρ' a = r at hc
    cases hc with
    | ptr _ hb =>
      rename_i bi
      unfold loadA at e
      split at e
      · rename_i c n z ti ro hob
        split at e
        · rename_i l hl
          cases e
          obtain ⟨l', g1, g2, g3, g4⟩ := R.run_loadCells (P := P) hb hob hl
          have hag := C.run_isAgg ht w
          have hsz := C.run_size ht w
          rw [hd] at hag
          refine ⟨.agg l'.toArray, ?_, .agg g1 g2⟩
          simp [execOp, ho, hr, Instr.loadAt, Instr.sureAddr, loadVar, hag, hsz, g4]
        · cases e
      · cases e
  · split at e
    · rename_i g off hp
      obtain ⟨sp, hsp⟩ := gptrV_eq hp
      rw [hsp] at hc
      generalize hr : ρ' a = r at hc
      cases hc with
      | gptr _ _ =>
        unfold loadGA at e
        split at e
        · rename_i c hg
          split at e
          · rename_i l hl
            cases e
            obtain ⟨g1, g2, g4⟩ := R.run_gcells C hg hl
            have hag := C.run_isAgg ht w
            have hsz := C.run_size ht w
            rw [hd] at hag
            refine ⟨.agg l.toArray, ?_, .agg g1 g2⟩
            simp [execOp, ho, hr, Instr.loadAt, Instr.sureAddr, loadVar, hag, hsz, g4]
          · cases e
        · cases e
    · cases e
theorem ok_sliceSl {t e : TypeId} {x : Operand} {lo hi mx : Option Operand} {i ei : TI} (C : CxOk P cx) (ht : cx.ti t = some i) (hd : i.desc = .slice e) (he : cx.ti e = some ei) (hm : mx.isSome = true → hi.isSome = true)
    (ho : o.op = .slice t x lo hi mx) : LookOk P o fun ρ h => sliceSl h ei.size (ρ x) (lo.map ρ) (hi.map ρ) (mx.map ρ) := by
  intro W μ ρ ρ' h w v hop R e
  have hc := mem_ops hop ho (x := x) (by simp [Op.operands])
  have hlo : OptR μ (lo.map ρ) (lo.map ρ') := optR fun y hy => mem_ops hop ho (by simp [Op.operands, hy])
  have hhi : OptR μ (hi.map ρ) (hi.map ρ') := optR fun y hy => mem_ops hop ho (by simp [Op.operands, hy])
  have hmx : OptR μ (mx.map ρ) (mx.map ρ') := optR fun y hy => mem_ops hop ho (by simp [Op.operands, hy])
  dsimp only at e
  generalize hr : ρ' x = r at hc
  generalize hq : ρ x = q at hc e
  unfold sliceSl at e
  split at e
  · rename_i a len cap
    split at e
    · rename_i l hh m hb
      have hu := C.run_und ht w
      have hsz := C.run_size he w
      split at e
      · cases e
        cases hc
        obtain ⟨rb, g1, g2, g3, g4, g5⟩ := bounds_ok (P := P) (x := 0) hlo hhi hmx (by simpa using hm) hb true w
        have rb' : (Instr.sliceBounds true 0 0 (lo.map ρ') (hi.map ρ') (mx.map ρ')).run P w = .ok (l, hh, m) w := by
          rw [Nat.add_zero] at rb; rw [rb]; split <;> rfl
        have hz : hh - l = 0 ∧ m - l = 0 := by
          cases hi with
          | some _ => have := g2 rfl; omega
          | none => have := g5 rfl; omega
        refine ⟨.slice none (hh - l) (m - l), by simp [execOp, ho, hr, Instr.sliceAt, Instr.slice, hu, hd, rb', hsz], ?_⟩
        show VR μ (.slice none (hh - l) (m - l)) (.slice none (hh - l) (m - l))
        rw [hz.1, hz.2]; exact .nils
      · rename_i b off
        cases hz : okZ h b ei.size with
        | false => rw [hz] at e; cases e
        | true =>
          rw [hz] at e; cases e
          cases hc with
          | slice _ _ _ x2 ra hbi hlc hor hra =>
            rename_i bi
            obtain ⟨rb, g1, g2, g3, g4, g5⟩ := bounds_ok (P := P) (x := x2) hlo hhi hmx (by simpa using hm) hb true w
            have hhm : hh ≤ m := by
              cases hi with
              | some _ => exact g2 rfl
              | none =>
                cases mx with
                | none => have := g4 rfl; have := g5 rfl; omega
                | some _ => simp at hm
            have hze : x2 = 0 ∨ bi.z = ei.size := by
              rcases hor with h0 | ⟨h0, _⟩
              · exact .inl h0
              · unfold okZ at hz
                split at hz
                · rename_i c n z ti ro hob
                  obtain ⟨cs, e', fz, r1, r2, r3, r4, _⟩ := R.ob b bi _ hbi hob
                  cases ti with
                  | true => have := (r4 rfl).1; left; omega
                  | false => right; rw [r3]; exact Nat.eq_of_beq_eq_true (by simpa using hz)
                · cases hz
            generalize hy : (if mx.isNone then x2 else 0) = y
            have hcap : (if (mx.map ρ).isNone then m + x2 else m) = m + y := by
              cases mx <;> simp at hy ⊢ <;> omega
            rw [hcap] at rb
            have hyx : y = 0 ∨ (y = x2 ∧ m = cap) := by
              cases mx with
              | none => right; simp at hy; exact ⟨hy.symm, g4 rfl⟩
              | some _ => left; simpa using hy.symm
            refine ⟨.slice (some (if m + y = l then ra else ra.add (l * ei.size))) (hh - l) (m - l + y), ?_, ?_⟩
            · simp only [execOp, ho, hr, Instr.sliceAt, Sem.run_bind, hu, hd, Result.andThen_ok, Instr.slice, rb, hsz, Sem.run_pure]
              rw [show m + y - l = m - l + y from by omega]
              split <;> rfl
            · refine VR.slice (μ := μ) (off + l * ei.size) (hh - l) (m - l) y _ hbi (by omega) ?_ ?_
              · rcases hyx with h0 | ⟨h0, h1⟩
                · exact .inl h0
                · rcases hor with h2 | ⟨h2, h3⟩
                  · left; omega
                  · rcases hze with h4 | h4
                    · left; omega
                    · right
                      refine ⟨by omega, ?_⟩
                      rw [h4] at h3 ⊢
                      obtain ⟨k, rfl⟩ : ∃ k, m = l + k := ⟨m - l, by omega⟩
                      rw [← h3, ← h1, Nat.add_sub_cancel_left, Nat.add_mul]; omega
              · by_cases hml : m + y = l
                · right; omega
                · rw [if_neg hml]
                  rcases hra with h5 | ⟨h5, h6⟩
                  · left; rw [h5, add_off, Nat.add_assoc]
                  · right; rcases hyx with h0 | ⟨h0, h1⟩ <;> omega
      · cases e
    · cases e
  · cases e
end Go.EvM
namespace Go.EvM
set_option linter.unusedSectionVars false
variable [GLs]
open Go.RowKit
set_option linter.unusedVariables false
variable {P : Program} {cx : Cx} {o : Oper}
def MakeOk (P : Program) (o : Oper) (f : Env → Option Mk) : Prop :=
  ∀ (W : World) (μ : Mu) (ρ ρ' : Env) (h : Hp) (w : World) (m : Mk), Ops o μ ρ ρ' → Rel W μ h w → f ρ = some m →
    ∃ v' w' bi, (execOp ρ' o).run P w = .ok (.value v') w' ∧ bi.rb = w.heap.size ∧ (∃ x, w'.heap = w.heap.push x) ∧ w'.os = w.os ∧ w'.tape = w.tape ∧ w'.output = w.output ∧
      ∀ b, μ b = none → VR (μ.set b bi) (m.val b) v' ∧ RelOb (μ.set b bi) W.heap.size w' bi m.ob
theorem relOb_new {μ μ' : Mu} {W w w' : World} {t : Tr Value} {n z xe : Nat} {et : Option TypeId} {tight : Bool} {cs : Array Value} {e : TypeId} {fz : Nat × Nat} (hl : Le μ μ') (hN : W.heap.size ≤ w.heap.size) (hw : w'.heap[w.heap.size]? = some (.cells cs e fz))
    (hc : ∀ j, n ≤ j → t.get j = none) (hc2 : ∀ j, j < n → ∃ a v, t.get j = some a ∧ cs[j]? = some v ∧ VR μ a v ∧ oneB a = true) (ht : tight = true → xe = 0) (hs : n + xe * z ≤ cs.size)
    (hf : ∀ j, j < n + xe * z → ¬ (fz.1 ≤ j ∧ j < fz.2)) (hz : ∀ t, et = some t → e = t ∧ (tight = true → cs.size = n)) :
    RelOb μ' W.heap.size w' ⟨w.heap.size, 0, n, z, xe, default⟩ (.cells t n ⟨z, et⟩ tight false) :=
  ⟨cs, e, fz, hw, ⟨rfl, hz⟩, rfl, fun h => ⟨ht h, rfl⟩, by simpa using hs, hc, fun j hj => let ⟨a, v, p, q, r, s⟩ := hc2 j hj; ⟨a, v, p, by simpa using q, r.mono hl, s⟩, fun h => by simp at h, fun _ => ⟨hN, fun j hj => hf j (by simpa using hj)⟩⟩
theorem heap_new (w : World) (o : Obj) : (w.alloc o).heap[w.heap.size]? = some o := by
  show (w.heap.push o)[w.heap.size]? = some o
  simp
theorem make_box {W : World} {μ : Mu} {h : Hp} {w : World} {l : List Value} {cs : Array Value} (R : Rel W μ h w) (e : TypeId) {et : Option TypeId} (he : ∀ t, et = some t → e = t) (hl : VRs μ l cs.toList) (h1 : ∀ x ∈ l, oneB x = true) :
    ∀ b, μ b = none → VR (μ.set b ⟨w.heap.size, 0, l.length, 1, 0, default⟩) (.pointer (some ⟨b, 0, none⟩)) (.pointer (some ⟨w.heap.size, 0, none⟩)) ∧
      RelOb (μ.set b ⟨w.heap.size, 0, l.length, 1, 0, default⟩) W.heap.size (w.alloc (.cells cs e)) ⟨w.heap.size, 0, l.length, 1, 0, default⟩ (mkCells l ⟨1, et⟩ true) := by
  intro b hb
  obtain ⟨c1, c2, c3⟩ := CellsR.ofL hl h1
  refine ⟨VR.ptr (i := ⟨w.heap.size, 0, l.length, 1, 0, default⟩) 0 (Mu.set_eq _ _ _), ?_⟩
  exact relOb_new (Mu.le_set hb) R.below.size (heap_new w _) c2 c3 (fun _ => rfl) (by simp; omega) (by simp) fun t ht => ⟨he t ht, fun _ => by have := hl.length; simpa using this⟩
theorem ok_alloc {e : TypeId} {i : TI} (C : CxOk P cx) (he : cx.ti e = some i) (ho : o.op = .alloc e) :
    MakeOk P o fun _ => some ⟨mkCells i.zero ⟨1, some e⟩ true, fun r => .pointer (some ⟨r, 0, none⟩)⟩ := by
  intro W μ ρ ρ' h w m hop R em
  cases em
  obtain ⟨z, hz, hzc⟩ := C.run_zero he w
  refine ⟨.pointer (some ⟨w.heap.size, 0, none⟩), w.alloc (.cells z.cells e), ⟨w.heap.size, 0, i.zero.length, 1, 0, default⟩, ?_, rfl, ⟨_, rfl⟩, rfl, rfl, rfl, ?_⟩
  · simp [execOp, ho, Instr.alloc, hz, newVar, newRow]
  · exact make_box R e (fun t ht => by cases ht; rfl) (by rw [hzc]; exact C.zero_VRs he μ) (C.zero_one he)
theorem ok_box {e : TypeId} {x : Operand} (ho : o.op = .box e x) :
    MakeOk P o fun ρ => match cellsL (ρ x) with
      | some cs => some ⟨mkCells cs ⟨1, none⟩ true, fun r => .pointer (some ⟨r, 0, none⟩)⟩
      | none => none := by
  intro W μ ρ ρ' h w m hop R em
  have hc := mem_ops hop ho (x := x) (by simp [Op.operands])
  dsimp only at em
  split at em
  · rename_i cs hcs
    cases em
    obtain ⟨g1, g2⟩ := cellsL_ok hc hcs
    refine ⟨.pointer (some ⟨w.heap.size, 0, none⟩), w.alloc (.cells (ρ' x).cells e), ⟨w.heap.size, 0, cs.length, 1, 0, default⟩, ?_, rfl, ⟨_, rfl⟩, rfl, rfl, rfl, ?_⟩
    · simp [execOp, ho, Instr.box, newVar, newRow]
    · exact make_box R e (fun t ht => by cases ht) g1 g2
  · cases em
theorem repL_zero (z : List Value) : repL z 0 = [] := rfl
theorem repL_succ (z : List Value) (n : Nat) : repL z (n + 1) = z ++ repL z n := rfl
theorem repL_len (z : List Value) : ∀ n, (repL z n).length = n * z.length
  | 0 => by simp [repL_zero]
  | n + 1 => by rw [repL_succ, List.length_append, repL_len z n, Nat.add_mul]; omega
theorem repL_mem {z : List Value} {x : Value} : ∀ {n : Nat}, x ∈ repL z n → x ∈ z
  | 0, h => by simp [repL_zero] at h
  | n + 1, h => by
    rw [repL_succ, List.mem_append] at h
    rcases h with h | h
    · exact h
    · exact repL_mem h
theorem repL_get (z : List Value) : ∀ (n j : Nat), j < n * z.length → (repL z n)[j]? = z[j % z.length]?
  | 0, j, h => by simp at h
  | n + 1, j, h => by
    rw [repL_succ]
    by_cases hj : j < z.length
    · rw [List.getElem?_append_left hj, Nat.mod_eq_of_lt hj]
    · rw [List.getElem?_append_right (by omega), repL_get z n _ (by rw [Nat.add_mul] at h; omega)]
      rw [← Nat.mod_eq_sub_mod (by omega)]
theorem rep_eq (z : Array Value) (k n : Nat) (hk : k = n * z.size) (hz : n = 0 ∨ 0 < z.size) : ((Array.range k).map fun j => z[j % z.size]!).toList = repL z.toList n := by
  apply List.ext_getElem?
  intro j
  by_cases hj : j < k
  · rw [repL_get z.toList n j (by rw [hk] at hj; simpa using hj)]
    have hzs : 0 < z.size := by
      rcases hz with h | h
      · subst h; rw [hk] at hj; simp at hj
      · exact h
    have hm : j % z.size < z.size := Nat.mod_lt _ hzs
    simp [hj, hm]
  · rw [List.getElem?_eq_none (by simp; omega), List.getElem?_eq_none (by rw [repL_len]; simp; omega)]
theorem plains_VRs (C : CxOk P cx) {e : TypeId} {i : TI} (he : cx.ti e = some i) (μ : Mu) (n : Nat) : VRs μ (repL i.zero n) (repL i.zero n) ∧ ∀ x ∈ repL i.zero n, oneB x = true := by
  obtain ⟨f, z, h1, h2, h3, h4, h5, h6, h7, h8⟩ := C.ti e i he
  exact ⟨plain_VRs μ 4 _ fun x hx => (h8 x (repL_mem hx)).1, fun x hx => (h8 x (repL_mem hx)).2⟩
theorem ok_buildSlice {t e : TypeId} {len : Nat} {ps : Array (Nat × Operand)} {i ei : TI} (C : CxOk P cx) (ht : cx.ti t = some i) (hd : i.desc = .slice e) (he : cx.ti e = some ei)
    (hsz : (Nat.ble (Nat.mul len ei.size) 16777216 && Nat.blt 0 ei.size) = true) (ho : o.op = .buildSlice t len ps) :
    MakeOk P o fun ρ => buildSl ei.zero ei.size len (partsOf ρ ps) := by
  intro W μ ρ ρ' h w m hop R em
  dsimp only at em
  unfold buildSl at em
  split at em
  · rename_i tr htr
    cases em
    simp only [Bool.and_eq_true] at hsz
    have hle : len * ei.size ≤ 16777216 := Nat.le_of_ble_eq_true hsz.1
    have hpos : 0 < ei.size := blt_lt hsz.2
    have hu := C.run_und ht w
    have hs := C.run_size he w
    obtain ⟨z, hz, hzc⟩ := C.run_zero he w
    have hzl : z.cells.size = ei.size := by rw [← C.zero_len he, ← hzc]; simp
    obtain ⟨p1, p2⟩ := parts_ok (μ := μ) (ρ := ρ) (ρ' := ρ') (ps := ps) (fun p hp => mem_ops hop ho (by simp [Op.operands]; exact ⟨p.1, by simpa using hp⟩))
    obtain ⟨q1, q2⟩ := plains_VRs C he μ len
    obtain ⟨zr, hz0, hz1, hzrl⟩ : ∃ zr : Array Value, (len * ei.size = 0 → zr = #[]) ∧ (¬ len * ei.size = 0 → zr = z.cells) ∧
        ((Array.range (len * ei.size)).map (fun j => zr[j % zr.size]!)).toList = repL ei.zero len := by
      by_cases h0 : len * ei.size = 0
      · refine ⟨#[], fun _ => rfl, fun h => absurd h0 h, ?_⟩
        have : len = 0 := by rcases Nat.mul_eq_zero.1 h0 with h | h <;> omega
        subst this; simp [repL_zero]
      · exact ⟨z.cells, fun h => absurd h h0, fun _ => rfl, by rw [rep_eq z.cells _ len (by rw [hzl]) (.inr (by omega)), hzc]⟩
    have hC : CellsR μ (Tr.ofL (repL ei.zero len)) (len * ei.size) ((Array.range (len * ei.size)).map (fun j => zr[j % zr.size]!)) := by
      have := CellsR.ofL (μ := μ) (l := repL ei.zero len) (cs := (Array.range (len * ei.size)).map (fun j => zr[j % zr.size]!)) (by rw [hzrl]; exact q1) q2
      rwa [repL_len, C.zero_len he] at this
    obtain ⟨cs', g1, c1, c2, c3⟩ := fill_ok (place' := fun i => some (i * ei.size, ei.size)) (fun j p hj => hj) _ _ _ _ _ hC p1 p2 htr
    refine ⟨.slice (some ⟨w.heap.size, 0, none⟩) len len, w.alloc (.cells cs' e), ⟨w.heap.size, 0, len * ei.size, ei.size, 0, default⟩, ?_, rfl, ⟨_, rfl⟩, rfl, rfl, rfl, ?_⟩
    · have hnot : ¬ len * ei.size > 2 ^ 24 := by omega
      have hrun : (Instr.buildSlice t len (ps.map fun (i, x) => (i, ρ' x))).run P w = .ok (.slice (some ⟨w.heap.size, 0, none⟩) len len) (w.alloc (.cells cs' e)) := by
        unfold Instr.buildSlice
        simp only [Sem.run_bind, hu, hd, Result.andThen_ok, hs]
        rw [if_neg hnot]
        by_cases h0 : len * ei.size = 0
        · rw [hz0 h0] at g1
          simp only [h0, if_true, pure_bind] at g1 ⊢
          rw [g1]
          simp [newRow]
        · rw [hz1 h0] at g1
          simp only [h0, if_false, pure_bind, Sem.run_bind, hz, Result.andThen_ok]
          rw [g1]
          simp [newRow]
      unfold execOp; rw [ho]; exact run_v hrun
    · intro b hb
      refine ⟨?_, relOb_new (Mu.le_set hb) R.below.size (heap_new w _) c2 c3 (fun _ => rfl) (by simp [c1]) (by simp) fun t ht => (by cases ht)⟩
      have := VR.slice (μ := μ.set b ⟨w.heap.size, 0, len * ei.size, ei.size, 0, default⟩) (i := ⟨w.heap.size, 0, len * ei.size, ei.size, 0, default⟩) 0 len len 0 ⟨w.heap.size, 0, none⟩ (Mu.set_eq _ _ _) (Nat.le_refl _) (.inl rfl) (.inl rfl)
      exact this
  · cases em
theorem ok_makeSlice {t e : TypeId} {l c : Operand} {i ei : TI} (C : CxOk P cx) (ht : cx.ti t = some i) (hd : i.desc = .slice e) (he : cx.ti e = some ei) (ho : o.op = .makeSlice t l c) :
    MakeOk P o fun ρ => match natV (ρ l), natV (ρ c) with
        | some l, some c => bif Nat.ble l c && Nat.ble c 1073741824 && Nat.ble (Nat.mul c ei.bytes) 1099511627776 && Nat.blt 0 ei.size then
            some ⟨.cells (Tr.ofL (repL ei.zero c)) (Nat.mul c ei.size) ⟨ei.size, none⟩ true false, fun r => .slice (some ⟨r, 0, none⟩) l c⟩ else none
        | _, _ => none := by
  intro W μ ρ ρ' h w m hop R em
  have h1 := mem_ops hop ho (x := l) (by simp [Op.operands])
  have h2 := mem_ops hop ho (x := c) (by simp [Op.operands])
  dsimp only at em
  split at em
  · rename_i ln cn hln hcn
    cases hcond : (Nat.ble ln cn && Nat.ble cn 1073741824 && Nat.ble (Nat.mul cn ei.bytes) 1099511627776 && Nat.blt 0 ei.size) with
    | false => rw [hcond] at em; cases em
    | true =>
      rw [hcond] at em; cases em
      simp only [Bool.and_eq_true] at hcond
      obtain ⟨⟨⟨a1, a2⟩, a3⟩, a4⟩ := hcond
      have b1 : ln ≤ cn := Nat.le_of_ble_eq_true a1
      have b2 : cn ≤ 1073741824 := Nat.le_of_ble_eq_true a2
      have b3 : cn * ei.bytes ≤ 1099511627776 := Nat.le_of_ble_eq_true a3
      have b4 : 0 < ei.size := blt_lt a4
      obtain ⟨k1, e1⟩ := natV_eq hln
      obtain ⟨k2, e2⟩ := natV_eq hcn
      rw [e1] at h1; rw [e2] at h2
      generalize hr1 : ρ' l = r1 at h1
      generalize hr2 : ρ' c = r2 at h2
      cases h1; cases h2
      have hu := C.run_und ht w
      have hs := C.run_size he w
      obtain ⟨f, hf1, hf2, hf3, hf4⟩ := C.run_typeInfo he w
      obtain ⟨z, hz, hzc⟩ := C.run_zero he w
      have hzl : z.cells.size = ei.size := by rw [← C.zero_len he, ← hzc]; simp
      obtain ⟨q1, q2⟩ := plains_VRs C he μ cn
      obtain ⟨zr, hz0, hz1, hzrl⟩ : ∃ zr : Array Value, (cn * ei.size = 0 → zr = #[]) ∧ (¬ cn * ei.size = 0 → zr = z.cells) ∧
          ((Array.range (cn * ei.size)).map (fun j => zr[j % zr.size]!)).toList = repL ei.zero cn := by
        by_cases h0 : cn * ei.size = 0
        · refine ⟨#[], fun _ => rfl, fun h => absurd h0 h, ?_⟩
          have : cn = 0 := by rcases Nat.mul_eq_zero.1 h0 with h | h <;> omega
          subst this; simp [repL_zero]
        · exact ⟨z.cells, fun h => absurd h h0, fun _ => rfl, by rw [rep_eq z.cells _ cn (by rw [hzl]) (.inr (by omega)), hzc]⟩
      have hC : CellsR μ (Tr.ofL (repL ei.zero cn)) (cn * ei.size) ((Array.range (cn * ei.size)).map (fun j => zr[j % zr.size]!)) := by
        have := CellsR.ofL (μ := μ) (l := repL ei.zero cn) (cs := (Array.range (cn * ei.size)).map (fun j => zr[j % zr.size]!)) (by rw [hzrl]; exact q1) q2
        rwa [repL_len, C.zero_len he] at this
      obtain ⟨c1, c2, c3⟩ := hC
      refine ⟨.slice (some ⟨w.heap.size, 0, none⟩) ln cn, w.alloc (.cells ((Array.range (cn * ei.size)).map (fun j => zr[j % zr.size]!)) e), ⟨w.heap.size, 0, cn * ei.size, ei.size, 0, default⟩, ?_, rfl, ⟨_, rfl⟩, rfl, rfl, rfl, ?_⟩
      · have w1 : IntKind.i64.wrap (Int.ofNat ln) = (ln : Int) := IntWalk.i64_in _ (by rw [Int.ofNat_eq_natCast]; omega)
        have w2 : IntKind.i64.wrap (Int.ofNat cn) = (cn : Int) := IntWalk.i64_in _ (by rw [Int.ofNat_eq_natCast]; omega)
        have hrun : (Instr.makeSlice t (.int k1 (.ofNat ln)) (.int k2 (.ofNat cn))).run P w = .ok (.slice (some ⟨w.heap.size, 0, none⟩) ln cn) (w.alloc (.cells ((Array.range (cn * ei.size)).map (fun j => zr[j % zr.size]!)) e)) := by
          unfold Instr.makeSlice
          simp only [Sem.run_bind, hu, hd, Result.andThen_ok, asInt, asIntOf, Sem.run_pure, hf4, w1, w2]
          have t1 : (decide ((cn : Int) < 0) || decide (((f.bytes : Int)) * (cn : Int) > 2 ^ 48)) = false := by
            rw [hf3]
            have : ((ei.bytes : Int)) * (cn : Int) = ((cn * ei.bytes : Nat) : Int) := by rw [Nat.mul_comm]; simp
            rw [this]; simp; omega
          have t2 : decide ((ln : Int) < 0) = false := by simp
          have t3 : decide ((ln : Int) > (cn : Int)) = false := by simp; omega
          simp only [t1, t2, t3, Bool.or_self, Bool.false_eq_true, if_false]
          simp only [pure_bind, Sem.run_bind, run_askRoom, Result.andThen_ok, hs, Int.toNat_natCast]
          by_cases h0 : cn * ei.size = 0
          · rw [hz0 h0]
            simp only [h0, if_true, Sem.run_bind, newRow, run_newObj, Result.andThen_ok, Sem.run_pure, World.alloc_eq]
          · rw [hz1 h0]
            simp only [h0, if_false, pure_bind, Sem.run_bind, hz, Result.andThen_ok, bind_assoc, newRow, run_newObj, Sem.run_pure, World.alloc_eq]
        unfold execOp; rw [ho]; dsimp only; rw [hr1, hr2]; exact run_v hrun
      · intro b hb
        refine ⟨?_, relOb_new (Mu.le_set hb) R.below.size (heap_new w _) c2 c3 (fun _ => rfl) (by simp) (by simp) fun t ht => (by cases ht)⟩
        have := VR.slice (μ := μ.set b ⟨w.heap.size, 0, cn * ei.size, ei.size, 0, default⟩) (i := ⟨w.heap.size, 0, cn * ei.size, ei.size, 0, default⟩) 0 ln cn 0 ⟨w.heap.size, 0, none⟩ (Mu.set_eq _ _ _) b1 (.inl rfl) (.inl rfl)
        exact this
  · cases em
end Go.EvM
namespace Go.EvM
set_option linter.unusedSectionVars false
variable [GLs]
open Go.RowKit
set_option linter.unusedVariables false
variable {P : Program} {cx : Cx} {o : Oper}
def nextV : Next → Option Value
  | .value v => some v
  | .skip => some undef
  | _ => none
def EffOk (P : Program) (o : Oper) (f : Env → Hp → OR) : Prop :=
  ∀ (W : World) (μ : Mu) (ρ ρ' : Env) (h : Hp) (w : World) (v : Value) (h' : Hp), Ops o μ ρ ρ' → Rel W μ h w → f ρ h = .ok v h' →
    ∃ nx v' w' μ', (execOp ρ' o).run P w = .ok nx w' ∧ nextV nx = some v' ∧ VR μ' v v' ∧ Rel W μ' h' w' ∧ Ext h.n μ μ' ∧ h.n ≤ h'.n
theorem undefR (μ : Mu) : VR μ undef undef := .tuple .nil
theorem ok_store {t : TypeId} {a x : Operand} {i : TI} (C : CxOk P cx) (ht : cx.ti t = some i) (ho : o.op = .store t a x) :
    EffOk P o fun ρ h => match ptrV (ρ a) with
      | some (b, off) => (match cellsL (ρ x) with
        | some cs => bif Nat.beq cs.length i.size then (match putCells h b off cs with | some h => .ok undef h | none => .no) else .no
        | none => .no)
      | none => .no := by
  intro W μ ρ ρ' h w v h' hop R e
  have ha := mem_ops hop ho (x := a) (by simp [Op.operands])
  have hx := mem_ops hop ho (x := x) (by simp [Op.operands])
  dsimp only at e
  split at e
  · rename_i b off hp
    rw [ptrV_eq hp] at ha
    split at e
    · rename_i cs hcs
      cases hbq : Nat.beq cs.length i.size with
      | false => rw [hbq] at e; cases e
      | true =>
        rw [hbq] at e; simp only [cond_true] at e
        split at e
        · rename_i h2 hput
          cases e
          generalize hr : ρ' a = r at ha
          cases ha with
          | ptr _ hb =>
            rename_i bi
            obtain ⟨g1, g2⟩ := cellsL_ok hx hcs
            obtain ⟨k1, k2, k3⟩ := R.putCells (P := P) hb hput g1 g2
            have hsz := C.run_size ht w
            have hlen : (ρ' x).cells.size = i.size := by
              have := g1.length
              rw [Nat.eq_of_beq_eq_true hbq] at this
              simpa using this
            refine ⟨.skip, undef, _, μ, ?_, rfl, undefR μ, k2, Ext.refl _ _, by rw [k3]; exact Nat.le_refl _⟩
            simp [execOp, ho, hr, Instr.storeAt, Instr.sureAddr, storeVar, hsz, hlen, k1]
        · cases e
    · cases e
  · cases e
theorem firstL_ok {W : World} {μ : Mu} {h : Hp} {w : World} (R : Rel W μ h w) {size n : Nat} {x x' : Value} {l : List Value} (hx : VR μ x x') (e : firstL h size n x = some l) (hn : ∀ k, lenV x = some k → n ≤ k) :
    ∃ l', (∀ w', w'.heap = w.heap → (Builtin.firstCells size n x').run P w' = .ok l'.toArray w') ∧ VRs μ l l' ∧ (∀ y ∈ l, oneB y = true) ∧ l.length = n * size := by
  unfold firstL at e
  split at e
  · rename_i b off len cap
    split at e
    · rename_i c m z ti ro hob
      have hle : n ≤ len := hn len rfl
      cases hx with
      | slice _ _ _ xx ra hb hlc hor hra =>
        rename_i bi
        rcases hra with rfl | ⟨h0, _⟩
        · obtain ⟨l', g1, g2, g3, g4, g5⟩ := R.cells hb hob e
          refine ⟨l', fun w' hw' => ?_, g1, g2, g3⟩
          simp only [Builtin.firstCells]
          have : n * size = l'.length := by rw [g1.length, g3]; rfl
          rw [this]
          refine run_loadCells_list w' _ l' (fun j v hv => ?_)
          have := g4 j v hv
          unfold World.cell? at this ⊢
          rw [hw']; exact this
        · have hn0 : n = 0 := by omega
          subst hn0
          have : c.getL 0 off = some l := by simpa using e
          rw [Tr.getL_zero] at this; cases this
          exact ⟨[], fun w' hw' => by simp [Builtin.firstCells, loadCells, loadCellsFrom], .nil, by simp, by simp⟩
    · cases e
  · cases e
    cases hx
    have hn0 : n = 0 := by have := hn 0 rfl; omega
    subst hn0
    exact ⟨[], fun w' hw' => by simp [Builtin.firstCells], .nil, by simp, by simp⟩
  · rename_i s
    cases hb1 : Nat.beq size 1 with
    | false => rw [hb1] at e; cases e
    | true =>
    rw [hb1] at e; cases e
    obtain rfl := Nat.eq_of_beq_eq_true hb1
    cases hx
    have hnl : n ≤ s.data.toList.length := hn _ rfl
    refine ⟨(s.data.toList.take n).map fun b => .int .u8 b.toNat, fun w' hw' => ?_, ?_, ?_, by rw [List.length_map, List.length_take]; omega⟩
    · simp only [Builtin.firstCells, Sem.run_pure]
      congr 1
      apply Array.ext'
      simp [ByteArray.data_extract]
    · exact VRs.map fun b hb => .int _ _
    · intro y hy
      obtain ⟨b, _, rfl⟩ := List.mem_map.1 hy
      rfl
  · cases e
theorem lenV_ok {μ : Mu} {x x' : Value} {n : Nat} (hx : VR μ x x') (e : lenV x = some n) (w : World) : (Builtin.lenOf x').run P w = .ok n w := by
  unfold lenV at e
  split at e
  · cases e; cases hx <;> simp [Builtin.lenOf]
  · cases e; cases hx; simp only [Builtin.lenOf]; rw [size_len]; rfl
  · cases e
theorem grow_le (need : Nat) : ∀ r c, c < need → Builtin.growBy need r c ≤ need + (need + 768) / 4
  | 0, c, h => by simp [Builtin.growBy]; omega
  | r + 1, c, h => by
    unfold Builtin.growBy
    rw [if_neg (by omega)]
    by_cases h2 : c + (c + 768) / 4 < need
    · exact grow_le need r _ h2
    · cases r with
      | zero => simp only [Builtin.growBy]; omega
      | succ r => unfold Builtin.growBy; rw [if_pos (by omega)]; omega
theorem next_le {need old : Nat} (h : old < need) : Builtin.nextslicecap need old ≤ 2 * need + 192 := by
  unfold Builtin.nextslicecap
  split
  · omega
  · split
    · omega
    · have := grow_le need 4 old h; omega
theorem zeroCells_ok (z : Array Value) (n : Nat) (hz : 0 < z.size) : (Builtin.zeroCells z n).toList = repL z.toList n := rep_eq z (n * z.size) n rfl (.inr hz)
theorem app_run (C : CxOk P cx) {t u e : TypeId} {i ei : TI} (ht : cx.ti t = some i) (hd : i.desc = .slice e) (he : cx.ti e = some ei) (hu : isIntT cx u = false) {base : Option Addr} {sLen sCap n : Nat} {x' : Value} {new : List Value} (ty : TypeId) (w : World)
    (hlen : (Builtin.lenOf x').run P w = .ok n w) (hnew : ∀ w', w'.heap = w.heap → (Builtin.firstCells ei.size n x').run P w' = .ok new.toArray w') :
    (sLen + n ≤ sCap → ∀ w', (match base with | some a => (storeCells (a.add (sLen * ei.size)) new).run P w | none => .ok () w) = .ok () w' →
      (Builtin.append_ #[t, u] ty #[.slice base sLen sCap, x']).run P w = .ok (.slice base (sLen + n) sCap) w') ∧
    (sCap < sLen + n → (sLen + n) * ei.bytes ≤ 1099511627776 → sLen + n ≤ 1099511627776 → 0 < ei.size → ∀ (old : List Value), (∀ w', w'.heap = w.heap → (Builtin.firstCells ei.size sLen (.slice base sLen sCap)).run P w' = .ok old.toArray w') →
      ∃ k, ∃ (w1 : World), w1.heap = w.heap ∧ w1.os = w.os ∧ w1.tape = w.tape ∧ w1.output = w.output ∧
        (Builtin.append_ #[t, u] ty #[.slice base sLen sCap, x']).run P w = .ok (.slice (some ⟨w.heap.size, 0, none⟩) (sLen + n) (sLen + n + k)) (w1.alloc (.cells (old ++ new ++ repL ei.zero k).toArray e))) := by
  obtain ⟨iu, hiu, hni⟩ : ∃ iu, cx.ti u = some iu ∧ ∀ k, iu.desc ≠ .int k := by
    unfold isIntT at hu
    cases hq : cx.ti u with
    | none => rw [hq] at hu; cases hu
    | some iu =>
      rw [hq] at hu
      refine ⟨iu, rfl, fun k hk => ?_⟩
      simp only [hk] at hu
      cases hu
  have h1 := C.run_und ht w
  have h2 := C.run_und hiu w
  have h3 := C.run_size he w
  obtain ⟨f, _, _, hfb, hf⟩ := C.run_typeInfo he w
  constructor
  · intro hle w' hst
    unfold Builtin.append_
    simp only [List.getElem?_toArray, List.getElem?_cons_zero, List.getElem?_cons_succ, Sem.run_bind, h1, hd, Result.andThen_ok, h3, h2, Sem.run_pure, Bool.false_eq_true, if_false, hlen, Bool.not_false, if_true]
    rw [if_pos hle]
    simp only [Sem.run_bind, hnew w rfl, Result.andThen_ok]
    cases base with
    | none => simp at hst; subst hst; simp
    | some a => simp only [Sem.run_bind, hst, Result.andThen_ok, Sem.run_pure]
  · intro hlt hb hn hpos old hold
    obtain ⟨z, hzr, hzc⟩ := C.run_zero he w.drew
    have hnx := next_le hlt
    have hcap : ¬ (Builtin.nextslicecap (sLen + n) sCap * f.bytes > 2 ^ 48) := by
      rw [hfb]
      have h5 : Builtin.nextslicecap (sLen + n) sCap * ei.bytes ≤ (2 * (sLen + n) + 192) * ei.bytes := Nat.mul_le_mul_right _ hnx
      by_cases hs0 : sLen + n = 0
      · omega
      · have h6 : (2 * (sLen + n) + 192) * ei.bytes ≤ (194 * (sLen + n)) * ei.bytes := Nat.mul_le_mul_right _ (by omega)
        have h7 : 194 * (sLen + n) * ei.bytes = 194 * ((sLen + n) * ei.bytes) := Nat.mul_assoc _ _ _
        omega
    have hmax : ¬ (((sLen + n : Nat) : Int) > IntKind.i64.max ∧ f.bytes = 0) := by
      have : (IntKind.i64.max : Int) = 9223372036854775807 := by decide
      omega
    refine ⟨w.tape w.drawn (.appendCap (sLen + n) sCap e) % (2 ^ 63 - (sLen + n)), w.drew, rfl, rfl, rfl, rfl, ?_⟩
    have hzs : 0 < z.cells.size := by
      have := C.zero_len he
      rw [← hzc] at this
      simp at this; omega
    have hrest := zeroCells_ok z.cells (w.tape w.drawn (.appendCap (sLen + n) sCap e) % (2 ^ 63 - (sLen + n))) hzs
    rw [hzc] at hrest
    have hrest' : Builtin.zeroCells z.cells (w.tape w.drawn (.appendCap (sLen + n) sCap e) % (2 ^ 63 - (sLen + n))) = (repL ei.zero (w.tape w.drawn (.appendCap (sLen + n) sCap e) % (2 ^ 63 - (sLen + n)))).toArray := by
      apply Array.ext'; rw [hrest]
    unfold Builtin.append_
    simp only [List.getElem?_toArray, List.getElem?_cons_zero, List.getElem?_cons_succ, Sem.run_bind, h1, hd, Result.andThen_ok, h3, h2, Sem.run_pure, Bool.false_eq_true, if_false, hlen, Bool.not_false, if_true]
    rw [if_neg (by omega)]
    simp only [Sem.run_bind, hf, Result.andThen_ok, false_or]
    rw [if_neg hmax]
    simp only [Sem.run_bind, hf, Result.andThen_ok]
    rw [if_neg hcap]
    simp only [Sem.run_bind, run_choose, Question.forced, Bool.false_eq_true, if_false, Result.andThen_ok, Question.cut, World.drew_eq]
    obtain ⟨f', _, _, _, hf'⟩ := C.run_typeInfo he w.drew
    simp only [hf', Result.andThen_ok, run_askRoom, hold w.drew rfl, hnew w.drew rfl, hzr, newRow, Sem.run_bind, run_newObj, Sem.run_pure, World.alloc_eq, Nat.add_sub_cancel_left, hrest']
    rw [show ∀ (a b c : List Value), a.toArray ++ b.toArray ++ c.toArray = (a ++ b ++ c).toArray from fun a b c => by simp]
    rfl
theorem Rel.fresh {W : World} {μ : Mu} {h : Hp} {w : World} (R : Rel W μ h w) {b : Nat} (hb : h.n ≤ b) : μ b = none := by
  cases hc : μ b with
  | none => rfl
  | some i => have := R.dom b i hc; omega
theorem Rel.kill {W : World} {μ : Mu} {h : Hp} {w : World} (R : Rel W μ h w) (b : Nat) : Rel W μ ⟨h.n, h.b.del b⟩ w := by
  have fix : ∀ {c : Nat} {o : Ob}, (h.b.del b).get c = some o → h.b.get c = some o := by
    intro c o hc
    rw [Tr.get_del] at hc
    split at hc
    · cases hc
    · exact hc
  exact ⟨R.gl, R.dom, fun c i o hc ho => R.ob c i o hc (fix ho), fun c d i j o p hc hd ho hp => R.inj c d i j o p hc hd (fix ho) (fix hp), R.below⟩
theorem Rel.takeover {W : World} {μ : Mu} {h : Hp} {w : World} (R : Rel W μ h w) {b off m size sLen sCap n x : Nat} {bi : BI} {c : Tr Value} {old new new' : List Value} {zo : ZT} {ne : Option TypeId} (hb : μ b = some bi) (hzo : zo.z = size) (hE : ∀ t, ne = some t → zo.e = some t)
    (hob : h.b.get b = some (.cells c m zo false false)) (hend : off + sCap * size = m) (hx : x ≤ bi.xe) (hsc : sLen ≤ sCap) (hfit : sLen + n ≤ sCap + x) (hold : c.getL (sLen * size) off = some old) (hv : VRs μ new new') (h1 : ∀ y ∈ new, oneB y = true) (hlen : new.length = n * size) :
    (storeCells ⟨bi.rb, bi.d + off + sLen * size, none⟩ new').run P w = .ok () (w.setCells bi.rb (bi.d + off + sLen * size) new') ∧
    Rel W (μ.set h.n ⟨bi.rb, bi.d + off, (old ++ new).length, size, sCap + x - (sLen + n), default⟩) ⟨h.n + 1, (h.b.del b).put h.n (.cells (Tr.ofL (old ++ new)) (old ++ new).length ⟨size, ne⟩ false false)⟩ (w.setCells bi.rb (bi.d + off + sLen * size) new') := by
  obtain ⟨old', q1, q2, q3, q4, q5⟩ := R.cells hb hob hold
  obtain ⟨cs, et, fz, r1, r2, r3, r4, r5, r6, r7, r8, r9⟩ := R.ob b bi _ hb hob
  rw [hzo] at r5 r9
  obtain ⟨r9, r10⟩ := r9 rfl
  have hl' : new'.length = n * size := by rw [hv.length, hlen]
  have hbn : b < h.n := R.dom b bi hb
  have e1 : (sLen + n) * size = sLen * size + n * size := Nat.add_mul _ _ _
  have e2 : (sCap + x) * size = sCap * size + x * size := Nat.add_mul _ _ _
  have e3 : (sLen + n) * size ≤ (sCap + x) * size := Nat.mul_le_mul_right _ hfit
  have e4 : x * size ≤ bi.xe * size := Nat.mul_le_mul_right _ hx
  have e5 : (sCap + x - (sLen + n)) * size = (sCap + x) * size - (sLen + n) * size := Nat.sub_mul _ _ _
  have hone : ∀ v ∈ new', v.oneCell' = true := by
    intro v hv'
    obtain ⟨j, hj⟩ := List.mem_iff_getElem?.1 hv'
    obtain ⟨a, ha, hva⟩ := hv.get' hj
    exact one' (by rw [hva.one]; exact h1 a (List.mem_of_getElem? ha))
  have hst := run_storeCells_cells (P := P) bi.rb (bi.d + off + sLen * size) new' 0 w
    (fun j hj => by
      have hlt : bi.d + off + sLen * size + 0 + j < cs.size := by omega
      simp [World.cell?, r1]; omega)
    (fun j hj => by
      simp only [World.frozen?, r1]
      have := r10 (bi.d + off + sLen * size + 0 + j) (by omega)
      simpa using this) hone
  refine ⟨by simpa using hst, ?_⟩
  obtain ⟨cs', g1, g2, g3⟩ := setCells_heap bi.rb new' (bi.d + off + sLen * size) w cs et fz r1 (by omega)
  have hlo : (old ++ new).length = (sLen + n) * size := by rw [List.length_append, q3, hlen]; omega
  have hfr : μ h.n = none := R.fresh (Nat.le_refl _)
  have fix : ∀ {k : Nat} {o : Ob}, k ≠ h.n → ((h.b.del b).put h.n (.cells (Tr.ofL (old ++ new)) (old ++ new).length ⟨size, ne⟩ false false)).get k = some o → k ≠ b ∧ h.b.get k = some o := by
    intro k o hk ho
    rw [Tr.get_put_ne _ _ hk, Tr.get_del] at ho
    split at ho
    · cases ho
    · exact ⟨‹_›, ho⟩
  have setne : ∀ {k : Nat}, k ≠ h.n → (μ.set h.n ⟨bi.rb, bi.d + off, (old ++ new).length, size, sCap + x - (sLen + n), default⟩) k = μ k := fun hk => if_neg hk
  refine ⟨R.gl, ?_, ?_, ?_, setCells_below _ r9 _ _ _ R.below⟩
  · intro k j hk
    by_cases hkn : k = h.n
    · subst hkn; exact Nat.lt_succ_self _
    · rw [setne hkn] at hk; exact Nat.lt_succ_of_lt (R.dom k j hk)
  · intro k j o hk ho
    by_cases hkn : k = h.n
    · subst hkn
      rw [Mu.set_eq] at hk; cases hk
      rw [Tr.get_put_eq] at ho; cases ho
      refine ⟨cs', et, fz, g1, ⟨rfl, fun t ht => ⟨(r2.2 t (hE t ht)).1, fun h => by simp at h⟩⟩, rfl, fun h => by simp at h, by rw [g2]; simp only; omega, ?_, ?_, fun h => by simp at h, fun _ => ⟨r9, fun j hj => r10 j (by simp only at hj; omega)⟩⟩
      · intro j hj; rw [Tr.get_ofL]; exact List.getElem?_eq_none hj
      · intro j hj
        rw [Tr.get_ofL, g3]
        simp only
        by_cases hjo : j < sLen * size
        · obtain ⟨v, hv1, hv2⟩ := q1.get (List.getElem?_eq_getElem (by omega : j < old.length))
          have hcell := q4 j v hv1
          rw [add_off] at hcell
          have hcs : cs[bi.d + off + j]? = some v := by simpa [World.cell?, r1] using hcell
          refine ⟨old[j]'(by omega), v, ?_, ?_, hv2.mono (Mu.le_set hfr), q2 _ (List.getElem_mem _)⟩
          · rw [List.getElem?_append_left (by omega)]; exact List.getElem?_eq_getElem _
          · rw [if_neg (by omega)]; exact hcs
        · have hjn : j - old.length < new.length := by omega
          obtain ⟨v, hv1, hv2⟩ := hv.get (List.getElem?_eq_getElem hjn)
          refine ⟨new[j - old.length], v, ?_, ?_, hv2.mono (Mu.le_set hfr), h1 _ (List.getElem_mem _)⟩
          · rw [List.getElem?_append_right (by omega)]; exact List.getElem?_eq_getElem _
          · rw [if_pos (by omega), show bi.d + off + j - (bi.d + off + sLen * size) = j - old.length from by omega]; exact hv1
    · rw [setne hkn] at hk
      obtain ⟨hkb, ho'⟩ := fix hkn ho
      refine (R.ob k j o hk ho').move (Mu.le_set hfr) (setCells_other _ _ _ _ _ ?_)
      intro hrb
      cases o with
      | cells c2 n2 z2 ti2 ro2 =>
        cases ro2 with
        | false => exact hkb (R.inj k b j bi _ _ hk hb ho' hob rfl rfl hrb)
        | true =>
          obtain ⟨_, _, _, _, _, _, _, _, _, _, k1, _⟩ := R.ob k j _ hk ho'
          have := k1 rfl
          omega
      | map es => exact hkb (R.inj k b j bi _ _ hk hb ho' hob trivial rfl hrb)
      | mark => exact hkb (R.inj k b j bi _ _ hk hb ho' hob trivial rfl hrb)
      | lock _ _ => exact hkb (R.inj k b j bi _ _ hk hb ho' hob trivial rfl hrb)
      | chan _ _ => exact hkb (R.inj k b j bi _ _ hk hb ho' hob trivial rfl hrb)
  · intro k l i j o p hk hl ho hp wo wp hij
    by_cases hkn : k = h.n
    · by_cases hln : l = h.n
      · rw [hkn, hln]
      · subst hkn
        rw [Mu.set_eq] at hk; cases hk
        rw [setne hln] at hl
        obtain ⟨hlb, hp'⟩ := fix hln hp
        exact absurd (R.inj l b j bi _ _ hl hb hp' hob wp rfl hij.symm) hlb
    · rw [setne hkn] at hk
      obtain ⟨hkb, ho'⟩ := fix hkn ho
      by_cases hln : l = h.n
      · subst hln
        rw [Mu.set_eq] at hl; cases hl
        exact absurd (R.inj k b i bi _ _ hk hb ho' hob wo rfl hij) hkb
      · rw [setne hln] at hl
        obtain ⟨hlb, hp'⟩ := fix hln hp
        exact R.inj k l i j o p hk hl ho' hp' wo wp hij
theorem ok_append {t u e : TypeId} {s x : Operand} {i ei : TI} (C : CxOk P cx) (ht : cx.ti t = some i) (hd : i.desc = .slice e) (he : cx.ti e = some ei) (hu : isIntT cx u = false)
    (ho : o.op = .call { callee := .builtin .append, args := #[s, x], argTypes := #[t, u] }) : EffOk P o fun ρ h => appV h e ei.size ei.bytes (ρ s) (ρ x) := by
  let el := e
  intro W μ ρ ρ' h w v h' hop R e
  have h1 := mem_ops hop ho (x := s) (by simp [Op.operands, Call.operands])
  have h2 := mem_ops hop ho (x := x) (by simp [Op.operands, Call.operands])
  dsimp only at e
  have hexec : ∀ {r : Value} {w' : World}, (Builtin.append_ #[t, u] o.type #[ρ' s, ρ' x]).run P w = .ok r w' → (execOp ρ' o).run P w = .ok (.value r) w' := by
    intro r w' hr
    simp [execOp, ho, resolve, invoke, builtin, hr]
  generalize hr1 : ρ' s = s' at h1 hexec
  generalize hq1 : ρ s = sA at h1 e
  generalize hr2 : ρ' x = x' at h2 hexec
  generalize hq2 : ρ x = xA at h2 e
  unfold appV at e
  split at e
  · rename_i base sLen sCap n hln
    split at e
    · rename_i new hnew
      obtain ⟨new', n1, n2, n3, n4⟩ := firstL_ok (P := P) R h2 hnew (fun k hk => by rw [hln] at hk; cases hk; exact Nat.le_refl _)
      have hlenof := lenV_ok (P := P) h2 hln w
      obtain ⟨rb', rcap, rfl⟩ : ∃ rb' rcap, s' = .slice rb' sLen rcap := by cases h1 <;> exact ⟨_, _, rfl⟩
      obtain ⟨ar1, ar2⟩ := app_run C ht hd he hu (base := rb') (sLen := sLen) (sCap := rcap) o.type w hlenof n1
      cases hle : Nat.ble (Nat.add sLen n) sCap with
      | true =>
        rw [hle] at e; simp only [cond_true] at e
        have hle' : sLen + n ≤ sCap := Nat.le_of_ble_eq_true hle
        unfold appRoom at e
        split at e
        · cases e
          cases h1
          have hs0 : n = 0 := by omega
          subst hs0
          exact ⟨_, _, w, μ, hexec (ar1 (by omega) w rfl), rfl, .nils, R, Ext.refl _ _, Nat.le_refl _⟩
        · rename_i b off
          split at e
          · rename_i h2' hput
            cases e
            cases h1 with
            | slice _ _ _ xx ra hb hlc hor hra =>
              rename_i bi
              obtain ⟨k1, k2, k3⟩ := R.putCells (P := P) hb hput n2 n3
              refine ⟨_, _, w.setCells bi.rb (bi.d + (off + sLen * ei.size)) new', μ, hexec (ar1 (by omega) _ ?_), rfl, .slice off (sLen + n) sCap xx ra hb hle' hor hra, k2, Ext.refl _ _, by rw [k3]; exact Nat.le_refl _⟩
              rcases hra with rfl | ⟨h0, h00⟩
              · dsimp only
                rw [add_off, Nat.add_assoc]; exact k1
              · have hn0 : n = 0 := by omega
                subst hn0
                have : new' = [] := by
                  have := n2.length
                  rw [n4] at this
                  exact List.eq_nil_of_length_eq_zero (by simpa using this)
                subst this
                rfl
          · cases e
        · cases e
      | false =>
        rw [hle] at e; simp only [cond_false] at e
        have hgt : sCap < sLen + n := by
          rcases Nat.lt_or_ge sCap (sLen + n) with h | h
          · exact h
          · have h5 : Nat.ble (Nat.add sLen n) sCap = true := Nat.ble_eq_true_of_le h
            rw [h5] at hle; cases hle
        unfold appGrow at e
        cases hc : (Nat.ble (Nat.mul (Nat.add sLen n) ei.bytes) 1099511627776 && Nat.ble (Nat.add sLen n) 1099511627776 && Nat.blt 0 ei.size) with
        | false => rw [hc] at e; cases e
        | true =>
          rw [hc] at e; simp only [cond_true] at e
          simp only [Bool.and_eq_true] at hc
          have b1 : (sLen + n) * ei.bytes ≤ 1099511627776 := Nat.le_of_ble_eq_true hc.1.1
          have b2 : sLen + n ≤ 1099511627776 := Nat.le_of_ble_eq_true hc.1.2
          have b3 : 0 < ei.size := blt_lt hc.2
          split at e
          · rename_i old room hold hroom
            obtain ⟨old', o1, o2, o3, o4⟩ := firstL_ok (P := P) R h1 hold (fun k hk => by cases hk; exact Nat.le_refl _)
            cases e
            have hfresh : μ h.n = none := R.fresh (Nat.le_refl _)
            have hlenA : (old ++ new).length = (sLen + n) * ei.size := by rw [List.length_append, o4, n4, Nat.add_mul]
            have hVRs : VRs μ (old ++ new) (old' ++ new') := o2.append n2
            have hone : ∀ y ∈ old ++ new, oneB y = true := fun y hy => (List.mem_append.1 hy).elim (o3 y) (n3 y)
            by_cases hin : sLen + n ≤ rcap
            · -- in place, in the model
              cases h1 with
              | nils => omega
              | slice off _ _ xx ra hb hlc hor hra =>
                rename_i b bi
                have hx0 : xx ≠ 0 := by omega
                obtain ⟨hxx, hend⟩ := hor.resolve_left hx0
                obtain rfl := hra.resolve_right (fun h => hx0 h.2)
                have hroom2 : (match h.b.get b with
                    | some (.cells _ n z tight ro) => bif tight then some false else bif ro || !(Nat.beq z.z ei.size) then none else some (Nat.beq (Nat.add off (Nat.mul sCap ei.size)) n)
                    | _ => none) = some room := hroom
                clear hroom
                split at hroom2
                · rename_i c m z ti ro hob
                  obtain ⟨cs, et, fz, r1, r2, r3, r4, r5, r6, r7, r8, r9⟩ := R.ob b bi _ hb hob
                  have hti : ti = false := by
                    cases ti with
                    | false => rfl
                    | true => have := (r4 rfl).1; omega
                  subst hti
                  simp only [cond_false] at hroom2
                  cases hrz : (ro || !(Nat.beq z.z ei.size)) with
                  | true => rw [hrz] at hroom2; cases hroom2
                  | false =>
                    rw [hrz] at hroom2
                    simp only [Bool.or_eq_false_iff, Bool.not_eq_false'] at hrz
                    obtain ⟨rfl, hz1⟩ := hrz
                    have hz2 : z.z = ei.size := Nat.eq_of_beq_eq_true hz1
                    obtain ⟨r9, r10⟩ := r9 rfl
                    rw [r3, hz2] at hend
                    have hrm : room = true := by
                      have h5 : some (Nat.beq (Nat.add off (Nat.mul sCap ei.size)) m) = some room := hroom2
                      have h6 : Nat.beq (Nat.add off (Nat.mul sCap ei.size)) m = true := by
                        rw [show Nat.add off (Nat.mul sCap ei.size) = m from by rw [← r2.1, ← hend]; rfl]; exact Nat.beq_refl m
                      rw [h6] at h5; exact (Option.some.inj h5).symm
                    subst hrm
                    have hold' : c.getL (sLen * ei.size) off = some old := by
                      unfold firstL at hold
                      simp only [hob] at hold
                      exact hold
                    obtain ⟨t1, t2⟩ := R.takeover (P := P) (n := n) (x := xx) (ne := elE h el true (some ⟨b, off, none⟩)) hb hz2 (fun t ht => by
                      unfold elE at ht
                      dsimp only at ht
                      rw [hob] at ht
                      dsimp only at ht
                      split at ht
                      · rename_i t' ht'
                        split at ht
                        · rename_i hbq; cases ht; rw [ht', Nat.eq_of_beq_eq_true hbq]
                        · cases ht
                      · cases ht) hob (by rw [hend, r2.1]) hxx hlc hin hold' n2 n3 n4
                    refine ⟨_, .slice (some ⟨bi.rb, bi.d + off, none⟩) (sLen + n) (sCap + xx), _, _, hexec (ar1 hin _ (by dsimp only; rw [add_off]; exact t1)), rfl, ?_, t2, Mu.ext_set hfresh (Nat.le_refl _), Nat.le_succ _⟩
                    have hsum : sCap + xx = sLen + n + (sCap + xx - (sLen + n)) := by omega
                    have := VR.slice (μ := μ.set h.n ⟨bi.rb, bi.d + off, (old ++ new).length, ei.size, sCap + xx - (sLen + n), default⟩) (i := ⟨bi.rb, bi.d + off, (old ++ new).length, ei.size, sCap + xx - (sLen + n), default⟩) 0 (sLen + n) (sLen + n) (sCap + xx - (sLen + n)) ⟨bi.rb, bi.d + off, none⟩ (Mu.set_eq _ _ _) (Nat.le_refl _)
                      (.inr ⟨Nat.le_refl _, by simp only; rw [hlenA, Nat.zero_add]⟩) (.inl rfl)
                    rw [← hsum] at this
                    exact this
                · cases hroom2
            · -- a new block, in the model
              obtain ⟨k, w1, g1, g2, g3, g4, g5⟩ := ar2 (by omega) b1 b2 b3 old' o1
              have R0 : Rel W μ ⟨h.n, dropB h.b room base⟩ w := by
                cases room with
                | false => exact R
                | true => cases base with
                  | none => exact R
                  | some a => exact R.kill a.block
              have hN := R.below.size
              refine ⟨_, .slice (some ⟨w.heap.size, 0, none⟩) (sLen + n) (sLen + n + k), _, μ.set h.n ⟨w.heap.size, 0, (old ++ new).length, ei.size, k, default⟩, hexec g5, rfl, ?_, ?_, Mu.ext_set hfresh (Nat.le_refl _), Nat.le_succ _⟩
              · have := VR.slice (μ := μ.set h.n ⟨w.heap.size, 0, (old ++ new).length, ei.size, k, default⟩) (i := ⟨w.heap.size, 0, (old ++ new).length, ei.size, k, default⟩) 0 (sLen + n) (sLen + n) k ⟨w.heap.size, 0, none⟩ (Mu.set_eq _ _ _) (Nat.le_refl _)
                  (.inr ⟨Nat.le_refl _, by simp only; rw [hlenA, Nat.zero_add]⟩) (.inl rfl)
                exact this
              · refine R0.alloc (h' := ⟨Nat.succ h.n, _⟩) hfresh rfl (Nat.le_succ _) (Nat.lt_succ_self _) (Tr.get_put_eq _ _ _) (fun c j hc => Tr.get_put_ne _ _ (fun (e : c = h.n) => by subst e; rw [hfresh] at hc; cases hc)) ⟨_, by show w1.heap.push _ = _; rw [g1]⟩ g2 g3 g4 ?_
                obtain ⟨z, hz, hzc⟩ := C.run_zero he w
                have hw : (w1.alloc (.cells (old' ++ new' ++ repL ei.zero k).toArray e)).heap[w.heap.size]? = some (.cells (old' ++ new' ++ repL ei.zero k).toArray e) := by
                  rw [← g1]; exact heap_new w1 _
                have hl2 : (old' ++ new').length = (old ++ new).length := (o2.append n2).length
                refine relOb_new (Mu.le_set hfresh) hN hw (fun j hj => by rw [Tr.get_ofL]; exact List.getElem?_eq_none hj) (fun j hj => ?_) (fun h => by simp at h) ?_ (by simp) (fun t ht => ⟨by
                  unfold elE at ht
                  split at ht
                  · split at ht
                    · split at ht
                      · split at ht
                        · cases ht; rfl
                        · cases ht
                      · cases ht
                    · cases ht
                  · cases ht; rfl, fun h => by simp at h⟩)
                · obtain ⟨v, hv1, hv2⟩ := (o2.append n2).get (List.getElem?_eq_getElem hj)
                  refine ⟨(old ++ new)[j], v, by rw [Tr.get_ofL]; exact List.getElem?_eq_getElem hj, ?_, hv2, hone _ (List.getElem_mem hj)⟩
                  rw [List.getElem?_toArray, List.getElem?_append_left (by rw [hl2]; exact hj)]
                  exact hv1
                · rw [List.size_toArray]
                  simp only [List.length_append, repL_len, C.zero_len he] at hl2 ⊢
                  omega
          · cases e
    · cases e
  · cases e
end Go.EvM
namespace Go.EvM
set_option linter.unusedSectionVars false
variable [GLs]
open Go.RowKit
set_option linter.unusedVariables false
variable {P : Program} {cx : Cx} {o : Oper}
theorem ok_copy {t u e : TypeId} {d s : Operand} {i ei : TI} (C : CxOk P cx) (ht : cx.ti t = some i) (hd : i.desc = .slice e) (he : cx.ti e = some ei)
    (ho : o.op = .call { callee := .builtin .copy, args := #[d, s], argTypes := #[t, u] }) : EffOk P o fun ρ h => copyV h ei.size (ρ d) (ρ s) := by
  intro W μ ρ ρ' h w v h' hop R e
  have h1 := mem_ops hop ho (x := d) (by simp [Op.operands, Call.operands])
  have h2 := mem_ops hop ho (x := s) (by simp [Op.operands, Call.operands])
  have hu := C.run_und ht w
  have hsz := C.run_size he w
  dsimp only at e
  have hexec : ∀ {r : Value} {w' : World}, (Builtin.copy_ #[t, u] o.type #[ρ' d, ρ' s]).run P w = .ok r w' → (execOp ρ' o).run P w = .ok (.value r) w' := by
    intro r w' hr
    simp [execOp, ho, resolve, invoke, builtin, hr]
  generalize hr1 : ρ' d = d' at h1 hexec
  generalize hq1 : ρ d = dA at h1 e
  generalize hr2 : ρ' s = s' at h2 hexec
  generalize hq2 : ρ s = sA at h2 e
  unfold copyV at e
  split at e
  · rename_i base dLen dCap m hln
    split at e
    · rename_i l hl
      obtain ⟨l', n1, n2, n3, n4⟩ := firstL_ok (P := P) R h2 hl (fun k hk => by rw [hln] at hk; cases hk; exact Nat.min_le_left _ _)
      have hlenof := lenV_ok (P := P) h2 hln w
      obtain ⟨rb', rcap, rfl⟩ : ∃ rb' rcap, d' = .slice rb' dLen rcap := by cases h1 <;> exact ⟨_, _, rfl⟩
      have hrun : ∀ w', (match rb' with | some a => (storeCells a l').run P w | none => .ok () w) = .ok () w' → (Builtin.copy_ #[t, u] o.type #[.slice rb' dLen rcap, s']).run P w = .ok (.int .i64 (.ofNat (Nat.min m dLen))) w' := by
        intro w' hst
        unfold Builtin.copy_
        simp only [List.getElem?_toArray, List.getElem?_cons_zero, List.getElem?_cons_succ, Sem.run_bind, hu, hd, Result.andThen_ok, hlenof, hsz, n1 w rfl]
        cases rb' with
        | none => simp at hst; subst hst; simp [goInt]
        | some a => simp only [Sem.run_bind, hst, Result.andThen_ok, Sem.run_pure, goInt]; rfl
      split at e
      · cases e
        cases h1
        exact ⟨_, _, w, μ, hexec (hrun w rfl), rfl, .int _ _, R, Ext.refl _ _, Nat.le_refl _⟩
      · rename_i b off
        split at e
        · rename_i h2' hput
          cases e
          cases h1 with
          | slice _ _ _ xx ra hb hlc hor hra =>
            rename_i bi
            obtain ⟨k1, k2, k3⟩ := R.putCells (P := P) hb hput n2 n3
            refine ⟨_, _, w.setCells bi.rb (bi.d + off) l', μ, hexec (hrun _ ?_), rfl, .int _ _, k2, Ext.refl _ _, by rw [k3]; exact Nat.le_refl _⟩
            rcases hra with rfl | ⟨h0, h00⟩
            · exact k1
            · have hz : Nat.min m dLen = 0 := by have := Nat.min_le_right m dLen; show Nat.min m dLen = 0; simp only [Nat.min_def] at *; split <;> omega
              have : l' = [] := by
                have := n2.length
                rw [n4, hz] at this
                exact List.eq_nil_of_length_eq_zero (by simpa using this)
              subst this
              rfl
        · cases e
      · cases e
    · cases e
  · cases e
theorem bytesOf_ok : ∀ {l : List Value} {r : List UInt8}, bytesOf l = some r → ∃ ns : List Int, l = ns.map (Value.int .u8) ∧ r = ns.map fun n => UInt8.ofNat n.toNat
  | [], r, e => by unfold bytesOf at e; cases e; exact ⟨[], rfl, rfl⟩
  | v :: l, r, e => by
    unfold bytesOf at e
    split at e
    · rename_i h; cases h
    · rename_i n l' heq
      cases heq
      split at e
      · rename_i r' hr
        cases e
        obtain ⟨ns, h1, h2⟩ := bytesOf_ok hr
        exact ⟨n :: ns, by simp [h1], by simp [h2]⟩
      · cases e
    · cases e
theorem fold_push : ∀ (ns : List Int) (s : ByteArray), (ns.foldl (fun r n => r.push (UInt8.ofNat n.toNat)) s) = ⟨⟨s.data.toList ++ ns.map fun n => UInt8.ofNat n.toNat⟩⟩
  | [], s => by simp
  | n :: ns, s => by
    rw [List.foldl_cons, fold_push ns]
    simp [ByteArray.push]
theorem ok_convBS {a b e : TypeId} {x : Operand} {si di ei : TI} (C : CxOk P cx) (hs : cx.ti a = some si) (hd : cx.ti b = some di) (h1 : si.desc = .slice e) (h2 : di.desc = .string) (he : cx.ti e = some ei) (h3 : ei.desc = .int .u8) (ho : o.op = .convert a b x) :
    LookOk P o fun ρ h => match ρ x with
          | .slice none _ _ => some (.string .empty)
          | .slice (some ⟨b, off, none⟩) len _ => (match h.b.get b with
            | some (.cells c _ _ _ _) => (match c.getL len off with
              | some l => (match bytesOf l with | some r => some (.string ⟨⟨r⟩⟩) | none => none)
              | none => none)
            | _ => none)
          | _ => none := by
  intro W μ ρ ρ' h w v hop R e
  have hc := mem_ops hop ho (x := x) (by simp [Op.operands])
  have u1 := C.run_und hs w
  have u2 := C.run_und hd w
  have u3 := C.run_und he w
  dsimp only at e
  generalize hr : ρ' x = r at hc
  generalize hq : ρ x = q at hc e
  have hexec : ∀ {z : Value}, (Conv.bytesToString r).run P w = .ok z w → (∃ a l c, r = .slice a l c) → (execOp ρ' o).run P w = .ok (.value z) w := by
    rintro z hz ⟨p, l, c, rfl⟩
    simp [execOp, ho, hr, convert, u1, u2, u3, h1, h2, h3, hz]
  split at e
  · cases e; cases hc
    exact ⟨.string .empty, hexec (by simp [Conv.bytesToString]) ⟨_, _, _, rfl⟩, .string _⟩
  · rename_i b off len cap
    split at e
    · rename_i c n z ti ro hob
      split at e
      · rename_i l hl
        split at e
        · rename_i rr hrr
          cases e
          obtain ⟨ns, g1, g2⟩ := bytesOf_ok hrr
          cases hc with
          | slice _ _ _ xx ra hb hlc hor hra =>
            rename_i bi
            have hstr : ∀ (w : World), (ns.foldl (fun r n => r.push (UInt8.ofNat n.toNat)) ByteArray.empty) = ⟨⟨rr⟩⟩ := by
              intro _; rw [fold_push, g2]; simp
            refine ⟨.string ⟨⟨rr⟩⟩, ?_, .string _⟩
            refine hexec ?_ ⟨_, _, _, rfl⟩
            rcases hra with rfl | ⟨h0, _⟩
            · obtain ⟨l', q1, q2, q3, q4⟩ := R.run_loadCells (P := P) hb hob hl
              have hl' : l' = ns.map (Value.int .u8) := by
                rw [g1] at q1
                clear g1 g2 hstr q4 q3 q2
                induction ns generalizing l' with
                | nil => cases q1; rfl
                | cons n ns ih => cases q1 with
                  | cons hv ht => cases hv; rw [ih _ ht]; rfl
              rw [hl'] at q4
              rw [run_bytesToString w _ len _ ns q4, hstr w]
            · have hl0 : len = 0 := by omega
              subst hl0
              rw [Tr.getL_zero] at hl; cases hl
              have hns : ns = [] := by cases ns with | nil => rfl | cons _ _ => simp at g1
              subst hns
              have := run_bytesToString (P := P) w ra 0 (cap + xx) [] (by simp [loadCells, loadCellsFrom])
              rw [this, hstr w]
        · cases e
      · cases e
    · cases e
  · cases e
theorem push_modify (a : Array Obj) (x : Obj) (f : Obj → Obj) : (a.push x).modify a.size f = a.push (f x) := by
  apply Array.ext
  · simp
  · intro i h1 h2
    simp at h1
    rw [Array.getElem_modify]
    by_cases hi : i = a.size
    · subst hi; simp
    · have : a.size ≠ i := fun h => hi h.symm
      rw [if_neg this]
      rw [Array.getElem_push_lt (by omega), Array.getElem_push_lt (by omega)]
theorem freeze_new (w : World) (cs : Array Value) (e : TypeId) : ((w.alloc (.cells cs e)).freeze ⟨w.heap.size, cs.size, none⟩ 1).heap = w.heap.push (.cells cs e (cs.size, cs.size + 1)) := by
  unfold World.freeze
  rw [if_neg (by omega)]
  simp only [show (w.alloc (Obj.cells cs e)).heap = w.heap.push (Obj.cells cs e) from rfl]
  rw [push_modify]; simp
theorem ok_convSB {a b e : TypeId} {x : Operand} {si di ei : TI} (C : CxOk P cx) (hs : cx.ti a = some si) (hd : cx.ti b = some di) (h1 : si.desc = .string) (h2 : di.desc = .slice e) (he : cx.ti e = some ei) (h3 : ei.desc = .int .u8) (ho : o.op = .convert a b x) :
    MakeOk P o fun ρ => match ρ x with
          | .string s => some ⟨mkCells (s.data.toList.map fun b => .int .u8 (.ofNat b.toNat)) ⟨1, none⟩ false, fun r => .slice (some ⟨r, 0, none⟩) s.data.toList.length s.data.toList.length⟩
          | _ => none := by
  intro W μ ρ ρ' h w m hop R em
  have hc := mem_ops hop ho (x := x) (by simp [Op.operands])
  have u1 := C.run_und hs w
  have u2 := C.run_und hd w
  have u3 := C.run_und he w
  dsimp only at em
  split at em
  · rename_i s hq
    cases em
    rw [hq] at hc
    generalize hr : ρ' x = r at hc
    cases hc
    generalize hk : w.tape w.drawn (.appendCap s.size 0 e) % (2 ^ 63 - s.size) = k
    generalize hcs : (s.data.map fun b => Value.int .u8 (b.toNat : Int)) ++ Array.replicate k (Value.int .u8 0) = cs
    have hcsz : cs.size = s.data.toList.length + k := by rw [← hcs]; simp
    refine ⟨.slice (some ⟨w.heap.size, 0, none⟩) s.data.toList.length (s.data.toList.length + k), (w.drew.alloc (.cells cs e)).freeze ⟨w.heap.size, cs.size, none⟩ 1, ⟨w.heap.size, 0, s.data.toList.length, 1, k, default⟩, ?_, rfl, ?_, ?_, ?_, ?_, ?_⟩
    · have hrun : (Conv.stringToBytes e s).run P w = .ok (.slice (some ⟨w.heap.size, 0, none⟩) s.data.toList.length (s.data.toList.length + k)) ((w.drew.alloc (.cells cs e)).freeze ⟨w.heap.size, cs.size, none⟩ 1) := by
        unfold Conv.stringToBytes
        simp only [Sem.run_bind, run_choose, Question.forced, Bool.false_eq_true, if_false, Result.andThen_ok, Question.cut, World.drew_eq, newRow, run_newObj, World.alloc_eq, Sem.run_pure, hk, Nat.add_sub_cancel_left, hcs, markStringish, run_shape]
        have hsh : (w.drew.alloc (.cells cs e)).shape? w.heap.size = some (e, cs.size) := by
          have := heap_new w.drew (.cells cs e)
          rw [World.size_drew] at this
          unfold World.shape?; rw [this]
        simp only [World.size_drew, hsh, run_freeze, Result.andThen_ok]
        rw [← size_len]
      simp [execOp, ho, hr, convert, u1, u2, u3, h1, h2, h3, hrun]
    · exact ⟨_, freeze_new w.drew cs e⟩
    · unfold World.freeze; rw [if_neg (by omega)]; rfl
    · unfold World.freeze; rw [if_neg (by omega)]; rfl
    · unfold World.freeze; rw [if_neg (by omega)]; rfl
    · intro b hb
      constructor
      · have := VR.slice (μ := μ.set b ⟨w.heap.size, 0, s.data.toList.length, 1, k, default⟩) (i := ⟨w.heap.size, 0, s.data.toList.length, 1, k, default⟩) 0 s.data.toList.length s.data.toList.length k ⟨w.heap.size, 0, none⟩ (Mu.set_eq _ _ _) (Nat.le_refl _)
          (.inr ⟨Nat.le_refl _, by simp⟩) (.inl rfl)
        exact this
      · have hheap : ((w.drew.alloc (.cells cs e)).freeze ⟨w.heap.size, cs.size, none⟩ 1).heap[w.heap.size]? = some (.cells cs e (cs.size, cs.size + 1)) := by
          have := freeze_new w.drew cs e
          rw [World.size_drew] at this
          rw [this]
          show (w.heap.push _)[w.heap.size]? = _
          simp
        have hm : mkCells (s.data.toList.map fun b => Value.int .u8 (.ofNat b.toNat)) ⟨1, none⟩ false = .cells (Tr.ofL (s.data.toList.map fun b => Value.int .u8 (.ofNat b.toNat))) s.data.toList.length ⟨1, none⟩ false false := by
          unfold mkCells; rw [List.length_map]
        show RelOb _ _ _ _ (mkCells (s.data.toList.map fun b => Value.int .u8 (.ofNat b.toNat)) ⟨1, none⟩ false)
        rw [hm]
        refine relOb_new (μ := μ) (et := none) (z := 1) (xe := k) (n := s.data.toList.length) (Mu.le_set hb) R.below.size hheap ?_ ?_ (fun h => by simp at h) (by omega) (fun j hj => by simp only; omega) (fun t ht => by cases ht)
        · intro j hj; rw [Tr.get_ofL]; exact List.getElem?_eq_none (by simpa using hj)
        · intro j hj
          have hj2 : j < s.data.size := by simpa using hj
          refine ⟨.int .u8 ((s.data[j]).toNat : Int), .int .u8 ((s.data[j]).toNat : Int), ?_, ?_, .int _ _, rfl⟩
          · rw [Tr.get_ofL, List.getElem?_map, Array.getElem?_toList, Array.getElem?_eq_getElem hj2]; rfl
          · rw [← hcs, Array.getElem?_append_left (by simpa using hj2), Array.getElem?_map, Array.getElem?_eq_getElem hj2]; rfl
  · cases em
end Go.EvM
namespace Go.EvM
set_option linter.unusedSectionVars false
variable [GLs]
open Go.RowKit
set_option linter.unusedVariables false
variable {P : Program} {cx : Cx} {o : Oper}
theorem bytes_beq (x y : ByteArray) : (x == y) = (x.data.toList == y.data.toList) := by
  show (x.data == y.data) = _
  rw [Bool.eq_iff_iff]; simp
theorem get_map {P : Program} {w : World} {r : Nat} {es : Array MapEntry} {clock : Nat} (hb : w.heap[r]? = some (.map es clock)) : (getObj r).run P w = .ok (.map es clock) w := by simp [getObj, Sem.run, hb]
theorem set_map {P : Program} {w : World} {r : Nat} {es : Array MapEntry} {clock : Nat} (o : Obj) (hb : w.heap[r]? = some (.map es clock)) : (setObj r o).run P w = .ok () { w with heap := w.heap.setIfInBounds r o } := by simp [setObj, Sem.run, hb]
theorem kSh_eq {μ : Mu} {a a' : Value} {s : KS} (h : VR μ a a') (hs : kSh a = some s) : a' = a := by
  cases h <;> first | rfl | cases hs
theorem bytes_eq {x y : ByteArray} : (x.data.toList == y.data.toList) = true ↔ x = y := by
  constructor
  · intro h
    obtain ⟨⟨x⟩⟩ := x; obtain ⟨⟨y⟩⟩ := y
    simp at h; subst h; rfl
  · rintro rfl; simp
theorem sameE_facts {d : TypeDesc} {k a : Value} {b : Bool} (h : sameE d k a = some b) : okKey d k = true ∧ (∃ s, kSh k = some s ∧ kSh a = some s) ∧ (b = true ↔ k = a) := by
  unfold sameE at h
  split at h
  · split at h
    · split at h
      · rename_i hd
        have hd := of_decide_eq_true hd
        subst hd
        cases h
        refine ⟨rfl, ⟨_, rfl, rfl⟩, ?_⟩
        simp [eqI_eq]
      · cases h
    · cases h
  · split at h
    · cases h
      refine ⟨rfl, ⟨_, rfl, rfl⟩, ?_⟩
      rw [eqL_eq, bytes_eq]; simp
    · cases h
  · split at h
    · cases h
      rename_i x y
      refine ⟨rfl, ⟨_, rfl, rfl⟩, ?_⟩
      cases x <;> cases y <;> simp
    · cases h
  · cases h
theorem sameNow_of {d : TypeDesc} {k a : Value} {s : KS} (h1 : okKey d k = true) (hk : kSh k = some s) (ha : kSh a = some s) : ∃ b, Instr.sameNow d k a = some b ∧ (b = true ↔ k = a) := by
  unfold okKey at h1
  split at h1 <;> (first | (cases h1; done) | (split at h1 <;> first | (cases h1; done) | skip)) <;> (cases hk; cases a <;> first | (cases ha; done) | skip)
  · simp only [kSh, Option.some.injEq, KS.kI.injEq] at ha
    subst ha
    exact ⟨_, by simp only [Instr.sameNow, if_true]; rfl, by simp⟩
  · exact ⟨_, rfl, by rw [bytes_beq, bytes_eq]; simp⟩
  · exact ⟨_, rfl, by simp⟩
theorem findE_facts {d : TypeDesc} {k : Value} : ∀ {es : List (Value × Value)} {i : Nat} {res : Option (Nat × Value)}, findE d k es i = some res →
    (∀ e l, es = e :: l → okKey d k = true ∧ ∃ s, kSh k = some s ∧ kSh e.1 = some s) ∧
    ((res = none ∧ ∀ e ∈ es, e.1 ≠ k) ∨ ∃ j v, res = some (j, v) ∧ i ≤ j ∧ es[j - i]? = some (k, v))
  | [], i, res, h => by cases h; exact ⟨fun e l h => (by cases h), .inl ⟨rfl, fun e h => (by simp at h)⟩⟩
  | e :: es, i, res, h => by
    have h : (match sameE d k e.1 with | some b => (match b with | true => some (some (i, e.2)) | false => findE d k es (Nat.succ i)) | none => none) = some res := h
    split at h
    · rename_i b hs
      obtain ⟨f1, f2, f3⟩ := sameE_facts hs
      refine ⟨fun e' l he => by cases he; exact ⟨f1, f2⟩, ?_⟩
      cases b with
      | true =>
        cases h
        have := f3.1 rfl
        exact .inr ⟨i, e.2, rfl, Nat.le_refl _, by rw [Nat.sub_self, this]; rfl⟩
      | false =>
        have hne : e.1 ≠ k := fun he => by have := f3.2 he.symm; cases this
        rcases (findE_facts h).2 with ⟨g1, g2⟩ | ⟨j, v, g1, g2, g3⟩
        · exact .inl ⟨g1, fun x hx => (List.mem_cons.1 hx).elim (fun q => by rw [q]; exact hne) (fun q => g2 x q)⟩
        · refine .inr ⟨j, v, g1, by omega, ?_⟩
          rw [show j - i = j - (i + 1) + 1 by omega]; simpa using g3
    · cases h
theorem findNow_facts {d : TypeDesc} {k : Value} {s : KS} (hok : okKey d k = true) (hk : kSh k = some s) : ∀ (r : List MapEntry) (i : Nat), (∀ e ∈ r, kSh e.key = some s) →
    (Instr.findNow d k r i = some none ∧ ∀ e ∈ r, e.key ≠ k) ∨ ∃ j e, Instr.findNow d k r i = some (some (j, e.val)) ∧ i ≤ j ∧ r[j - i]? = some e ∧ e.key = k
  | [], i, _ => .inl ⟨rfl, fun e h => by simp at h⟩
  | e :: r, i, h => by
    obtain ⟨b, h1, h2⟩ := sameNow_of hok hk (h e List.mem_cons_self)
    cases b with
    | true => exact .inr ⟨i, e, by simp only [Instr.findNow, h1], Nat.le_refl _, by simp, (h2.1 rfl).symm⟩
    | false =>
      have hne : e.key ≠ k := fun he => by have := h2.2 he.symm; cases this
      rcases findNow_facts hok hk r (i + 1) (fun x hx => h x (List.mem_cons_of_mem _ hx)) with ⟨g1, g2⟩ | ⟨j, x, g1, g2, g3, g4⟩
      · exact .inl ⟨by simp only [Instr.findNow, h1]; exact g1, fun x hx => (List.mem_cons.1 hx).elim (fun q => by rw [q]; exact hne) (fun q => g2 x q)⟩
      · refine .inr ⟨j, x, by simp only [Instr.findNow, h1]; exact g1, by omega, ?_, g4⟩
        rw [show j - i = j - (i + 1) + 1 by omega]; simpa using g3
theorem EntR.length {μ : Mu} : ∀ {es : List (Value × Value)} {r : List MapEntry}, EntR μ es r → r.length = es.length
  | [], [], _ => rfl
  | (_, _) :: _, _ :: _, ⟨_, _, h⟩ => by simp [EntR.length h]
  | [], _ :: _, h => h.elim
  | _ :: _, [], h => h.elim
theorem EntR.get {μ : Mu} : ∀ {es : List (Value × Value)} {r : List MapEntry}, EntR μ es r → ∀ {j : Nat} {k v : Value}, es[j]? = some (k, v) → ∃ e, r[j]? = some e ∧ VR μ k e.key ∧ VR μ v e.val
  | [], [], _, j, k, v, h => by simp at h
  | (a, b) :: es, e :: r, ⟨h1, h2, _⟩, 0, k, v, h => by simp at h; obtain ⟨rfl, rfl⟩ := h; exact ⟨e, rfl, h1, h2⟩
  | (a, b) :: es, e :: r, ⟨_, _, h4⟩, j + 1, k, v, h => by simpa using EntR.get h4 (j := j) (by simpa using h)
  | [], _ :: _, h, _, _, _, _ => h.elim
  | _ :: _, [], h, _, _, _, _ => h.elim
theorem EntR.keys {μ : Mu} : ∀ {es : List (Value × Value)} {r : List MapEntry}, EntR μ es r → (∀ e ∈ es, ∃ s, kSh e.1 = some s) → r.map (·.key) = es.map (·.1)
  | [], [], _, _ => rfl
  | (a, b) :: es, e :: r, ⟨h1, _, h4⟩, h => by
    obtain ⟨s, hs⟩ := h (a, b) List.mem_cons_self
    simp only [List.map_cons, kSh_eq h1 hs, EntR.keys h4 fun x hx => h x (List.mem_cons_of_mem _ hx)]
  | [], _ :: _, h, _ => h.elim
  | _ :: _, [], h, _ => h.elim
theorem EntR.append {μ : Mu} : ∀ {es es2 : List (Value × Value)} {r r2 : List MapEntry}, EntR μ es r → EntR μ es2 r2 → EntR μ (es ++ es2) (r ++ r2)
  | [], _, [], _, _, h => h
  | (_, _) :: _, _, _ :: _, _, ⟨h1, h2, h4⟩, h => ⟨h1, h2, EntR.append h4 h⟩
  | [], _, _ :: _, _, h, _ => h.elim
  | _ :: _, _, [], _, h, _ => h.elim
theorem modE_ok {μ : Mu} {k k' x x' : Value} (hk : VR μ k k') (hx : VR μ x x') : ∀ {es : List (Value × Value)} {r : List MapEntry} (i : Nat), EntR μ es r → EntR μ (modE k x es i) (r.modify i fun e => { e with key := k', val := x' })
  | [], [], i, _ => by cases i <;> trivial
  | (a, v) :: es, y :: r, 0, ⟨h1, h2, h4⟩ => ⟨hk, hx, h4⟩
  | (a, v) :: es, y :: r, i + 1, ⟨h1, h2, h4⟩ => ⟨h1, h2, modE_ok hk hx i h4⟩
  | [], _ :: _, _, h => h.elim
  | _ :: _, [], _, h => h.elim
theorem modE_keys {k x v : Value} : ∀ {es : List (Value × Value)} {i : Nat}, es[i]? = some (k, v) → (modE k x es i).map (·.1) = es.map (·.1)
  | [], i, h => by simp at h
  | (a, b) :: es, 0, h => by simp at h; obtain ⟨rfl, rfl⟩ := h; rfl
  | (a, b) :: es, i + 1, h => by simp only [modE, List.map_cons]; rw [modE_keys (by simpa using h)]
theorem MapR.rkeys {μ : Mu} {es : List (Value × Value)} {r : Array MapEntry} {cl : Nat} (h : MapR μ es r cl) : (r.toList.map (·.key)).Perm (es.map (·.1)) := by
  obtain ⟨l, h1, h2⟩ := h.ent
  obtain ⟨s, hs⟩ := h.shape
  rw [← h2.keys fun e he => ⟨s, hs e he⟩]
  exact (h1.map _).symm
theorem MapR.length {μ : Mu} {es : List (Value × Value)} {r : Array MapEntry} {cl : Nat} (h : MapR μ es r cl) : r.size = es.length := by
  have := h.rkeys.length_eq; simpa using this
theorem key_once {l : List MapEntry} (hn : (l.map (·.key)).Nodup) : ∀ {a b : MapEntry}, a ∈ l → b ∈ l → a.key = b.key → a = b := by
  induction l with
  | nil => intro a b h; simp at h
  | cons x l ih =>
    rw [List.map_cons, List.nodup_cons] at hn
    intro a b ha hb e
    rcases List.mem_cons.1 ha with qa | qa <;> rcases List.mem_cons.1 hb with qb | qb
    · rw [qa, qb]
    · exact absurd (by rw [← qa, e]; exact List.mem_map_of_mem qb) hn.1
    · exact absurd (by rw [← qb, ← e]; exact List.mem_map_of_mem qa) hn.1
    · exact ih hn.2 qa qb e
theorem find_ok {μ : Mu} {d : TypeDesc} {es : List (Value × Value)} {r : Array MapEntry} {cl : Nat} {k k' : Value} {res : Option (Nat × Value)} (h : MapR μ es r cl) (hk : VR μ k k') (e : findE d k es 0 = some res) :
    (res = none ∧ Instr.findNow d k' r.toList 0 = some none ∧ ∀ x ∈ es, x.1 ≠ k) ∨
    ∃ j v i y l, res = some (j, v) ∧ Instr.findNow d k' r.toList 0 = some (some (i, y.val)) ∧ r[i]? = some y ∧ y.key = k' ∧ k' = k ∧ VR μ v y.val ∧ es[j]? = some (k, v) ∧ l.Perm r.toList ∧ EntR μ es l ∧ l[j]? = some y ∧ okKey d k = true := by
  obtain ⟨f1, f2⟩ := findE_facts e
  cases es with
  | nil =>
    have hl := h.length
    have hr : r.toList = [] := List.length_eq_zero_iff.1 (by simpa using hl)
    rcases f2 with ⟨g1, g2⟩ | ⟨j, v, _, _, g3⟩
    · exact .inl ⟨g1, by rw [hr]; rfl, g2⟩
    · simp at g3
  | cons e0 l0 =>
    obtain ⟨hok, s, hks, hes⟩ := f1 e0 l0 rfl
    have hkk := kSh_eq hk hks
    subst hkk
    obtain ⟨s', hs'⟩ := h.shape
    have : s' = s := by have := hs' e0 List.mem_cons_self; rw [hes] at this; exact (Option.some.inj this).symm
    subst this
    have hrk := h.rkeys
    have hrs : ∀ x ∈ r.toList, kSh x.key = some s' := fun x hx => by
      have := hrk.mem_iff.1 (List.mem_map_of_mem hx)
      obtain ⟨y, hy, he⟩ := List.mem_map.1 this
      rw [← he]; exact hs' y hy
    obtain ⟨l, hl1, hl2⟩ := h.ent
    rcases findNow_facts hok hks r.toList 0 hrs with ⟨n1, n2⟩ | ⟨i, y, n1, n2, n3, n4⟩ <;> rcases f2 with ⟨g1, g2⟩ | ⟨j, v, g1, g2, g3⟩
    · exact .inl ⟨g1, n1, g2⟩
    · obtain ⟨x, x1, x2, _⟩ := hl2.get (by simpa using g3)
      exact absurd (kSh_eq x2 hks) (n2 x (hl1.mem_iff.1 (List.mem_of_getElem? x1)))
    · have := hrk.mem_iff.1 (List.mem_map_of_mem (List.mem_of_getElem? n3))
      obtain ⟨z, hz, he⟩ := List.mem_map.1 this
      exact absurd (he.trans n4) (g2 z hz)
    · have g3 : (e0 :: l0)[j]? = some (k', v) := by simpa using g3
      obtain ⟨x, x1, x2, x3⟩ := hl2.get g3
      have hxk : x.key = k' := kSh_eq x2 hks
      have hxr := hl1.mem_iff.1 (List.mem_of_getElem? x1)
      have hnd : (r.toList.map (·.key)).Nodup := hrk.nodup_iff.2 h.keys
      have n3 : r.toList[i]? = some y := by simpa using n3
      have hxy : x = y := key_once hnd hxr (List.mem_of_getElem? n3) (hxk.trans n4.symm)
      subst hxy
      exact .inr ⟨j, v, i, x, l, g1, n1, by simpa using n3, n4, rfl, x3, g3, hl1, hl2, x1, hok⟩
theorem perm_modify {α : Type} (f : α → α) {l r : List α} {i j : Nat} {y : α} (h : l.Perm r) (hj : l[j]? = some y) (hi : r[i]? = some y) : (l.modify j f).Perm (r.modify i f) := by
  obtain ⟨lj, ej⟩ := List.getElem?_eq_some_iff.1 hj
  obtain ⟨li, ei⟩ := List.getElem?_eq_some_iff.1 hi
  rw [List.modify_eq_take_cons_drop lj, List.modify_eq_take_cons_drop li, ej, ei]
  have h1 : l = l.take j ++ y :: l.drop (j + 1) := by rw [← ej]; simp
  have h2 : r = r.take i ++ y :: r.drop (i + 1) := by rw [← ei]; simp
  have h3 : (y :: (l.take j ++ l.drop (j + 1))).Perm (y :: (r.take i ++ r.drop (i + 1))) := by
    refine List.perm_middle.symm.trans (List.Perm.trans ?_ List.perm_middle)
    rw [← h1, ← h2]; exact h
  exact List.perm_middle.trans (((List.perm_cons _).2 ((List.perm_cons _).1 h3)).trans List.perm_middle.symm)
theorem map_modify_same {α β : Type} {f : α → α} {g : α → β} (h : ∀ x, g (f x) = g x) : ∀ (l : List α) (i : Nat), (l.modify i f).map g = l.map g
  | [], i => by cases i <;> rfl
  | x :: l, 0 => by simp [List.modify, h]
  | x :: l, i + 1 => by simpa using map_modify_same h l i
theorem same_bits {v : Value} {s : KS} (h : kSh v = some s) (n : Nat) : Instr.sameBits n v v = true := by
  cases v <;> first | (cases h; done) | (cases n <;> simp [Instr.sameBits, bytes_beq])
structure MapOk (P : Program) (cx : Cx) (t : TypeId) (d : TypeDesc) (ei : TI) : Prop where
  ex : ∃ i kt et ki, cx.ti t = some i ∧ i.desc = .map kt et ∧ cx.ti kt = some ki ∧ cx.ti et = some ei ∧ ki.desc = d ∧ keyD d = true
theorem mapOf_ok {t : TypeId} {d : TypeDesc} {ei : TI} (e : mapOf cx t = some (d, ei)) : MapOk P cx t d ei := by
  unfold mapOf at e
  split at e
  · rename_i i hi
    split at e
    · rename_i kt et hd
      split at e
      · rename_i ki ei' hk he
        split at e
        · rename_i hkd
          cases e
          exact ⟨i, kt, et, ki, hi, hd, hk, he, rfl, hkd⟩
        · cases e
      · cases e
    · cases e
  · cases e
theorem run_checkKey (C : CxOk P cx) {kt : TypeId} {ki : TI} (hk : cx.ti kt = some ki) (hd : keyD ki.desc = true) (b : Bool) (v : Value) (w : World) : (Instr.checkKey b 10000 kt v).run P w = .ok () w := by
  rw [show (10000 : Nat) = 9999 + 1 from rfl]
  unfold Instr.checkKey
  simp only [Sem.run_bind, C.run_und hk, Result.andThen_ok]
  cases hdd : ki.desc <;> rw [hdd] at hd <;> first | (cases hd; done) | simp
theorem run_findKey (C : CxOk P cx) {kt : TypeId} {ki : TI} (hk : cx.ti kt = some ki) {k' : Value} {r : List MapEntry} {res : Option (Nat × Value)} (h : Instr.findNow ki.desc k' r 0 = some res) (w : World) : (Instr.findKey kt k' r).run P w = .ok res w := by
  unfold Instr.findKey
  simp only [Sem.run_bind, C.run_und hk, Result.andThen_ok, h, Sem.run_pure]
theorem CxOk.zv_ok (C : CxOk P cx) {t : TypeId} {i : TI} (h : cx.ti t = some i) (w : World) (μ : Mu) : (zeroValue t).run P w = .ok i.zv w ∧ VR μ i.zv i.zv := by
  obtain ⟨f, h1, h2, h3⟩ := C.zv t i h
  exact ⟨by simp [zeroValue, typeInfo, h1, h2], plain_VR μ 5 _ h3⟩
theorem okV_VR {μ : Mu} {v v' : Value} (h : VR μ v v') (ok b : Bool) : VR μ (okV ok v b) (if ok then .tuple #[v', .bool b] else v') := by
  cases ok with
  | true => exact .tuple (.cons h (.cons (.bool b) .nil))
  | false => exact h
theorem mapEs_ok {W : World} {μ : Mu} {h : Hp} {w : World} (R : Rel W μ h w) {x x' : Value} (hx : VR μ x x') {es : List (Value × Value)} (e : mapEs h x = some es) :
    (x' = .map none ∧ es = []) ∨ ∃ r arr cl, x' = .map (some r) ∧ w.heap[r]? = some (.map arr cl) ∧ MapR μ es arr cl := by
  unfold mapEs at e
  split at e
  · rename_i r
    cases r with
    | none => cases hx; cases e; exact .inl ⟨rfl, rfl⟩
    | some b =>
      dsimp only at e
      split at e
      · rename_i es' hb
        cases e
        cases hx with
        | map hm =>
          obtain ⟨arr, cl, h1, h2, h3⟩ := R.ob b _ _ hm hb
          exact .inr ⟨_, arr, cl, rfl, h1, h3⟩
      · cases e
  · cases e
theorem ok_lookup (C : CxOk P cx) {t : TypeId} {x k : Operand} {ok : Bool} {d : TypeDesc} {ei : TI} (hm : mapOf cx t = some (d, ei)) (ho : o.op = .lookup t x k ok) :
    LookOk P o fun ρ h => match mapEs h (ρ x) with
      | some es => (match findE d (ρ k) es 0 with
        | some r => (match r with
          | some p => some (okV ok p.2 true)
          | none => some (okV ok ei.zv false))
        | none => none)
      | none => none := by
  intro W μ ρ ρ' h w v hop R e
  have hx := mem_ops hop ho (x := x) (by simp [Op.operands])
  have hk := mem_ops hop ho (x := k) (by simp [Op.operands])
  obtain ⟨⟨i, kt, et, ki, h1, h2, h3, h4, rfl, h6⟩⟩ := mapOf_ok (P := P) hm
  dsimp only at e
  have hu := C.run_und h1
  rw [h2] at hu
  obtain ⟨z1, z2⟩ := C.zv_ok h4 w μ
  split at e
  · rename_i es hes
    split at e
    · rename_i r hf
      have key : ∃ (arr : Array MapEntry) (cl : Nat), MapR μ es arr cl ∧ (Instr.lookup t (ρ' x) (ρ' k) ok).run P w =
          ((do Instr.checkKey arr.isEmpty 10000 kt (ρ' k)
               let (v, ok') ← match ← Instr.findKey kt (ρ' k) arr.toList with
                 | some (_, v) => pure (v, true)
                 | none => pure (← zeroValue et, false)
               pure (if ok then .tuple #[v, .bool ok'] else v) : Sem Value).run P w) := by
        rcases mapEs_ok R hx hes with ⟨g1, rfl⟩ | ⟨rr, arr, cl, g1, g2, g3⟩
        · refine ⟨#[], 0, ⟨⟨[], by simp, trivial⟩, fun x h => by simp at h, by simp, by simp, ⟨.kS, fun e h => by simp at h⟩⟩, ?_⟩
          unfold Instr.lookup
          simp only [Sem.run_bind, hu, Result.andThen_ok, g1, Sem.run_pure]
          rfl
        · refine ⟨arr, cl, g3, ?_⟩
          unfold Instr.lookup
          simp only [Sem.run_bind, hu, Result.andThen_ok, g1, get_map g2, Sem.run_pure]
          rfl
      obtain ⟨arr, cl, ha, hrun⟩ := key
      simp only [execOp, ho]
      simp only [Sem.run_bind, hrun, run_checkKey C h3 h6, Result.andThen_ok]
      rcases find_ok ha hk hf with ⟨rfl, g2, _⟩ | ⟨j, v1, i1, y, l, rfl, g2, _, _, _, g3, _⟩
      · cases e
        simp only [run_findKey C h3 g2, Result.andThen_ok, Sem.run_bind, z1, Sem.run_pure]
        exact ⟨_, rfl, okV_VR z2 ok false⟩
      · cases e
        simp only [run_findKey C h3 g2, Result.andThen_ok, Sem.run_bind, Sem.run_pure]
        exact ⟨_, rfl, okV_VR g3 ok true⟩
    · cases e
  · cases e
theorem ok_lenM (C : CxOk P cx) {t : TypeId} {x : Operand} {i : TI} {kt et : TypeId} (ht : cx.ti t = some i) (hd : i.desc = .map kt et) (ho : o.op = .call { callee := .builtin .len, args := #[x], argTypes := #[t] }) :
    LookOk P o fun ρ h => (match mapEs h (ρ x) with | some es => some (.int .i64 (.ofNat es.length)) | none => none) := by
  intro W μ ρ ρ' h w v hop R e
  have hx := mem_ops hop ho (x := x) (by simp [Op.operands, Call.operands])
  have hu := C.run_und ht w
  dsimp only at e
  split at e
  · rename_i es hes
    cases e
    rcases mapEs_ok R hx hes with ⟨g1, rfl⟩ | ⟨rr, arr, cl, g1, g2, g3⟩
    · refine ⟨_, ?_, .int _ _⟩
      simp [execOp, ho, g1, resolve, invoke, builtin, Builtin.len_, hu, hd, goInt]
    · refine ⟨_, ?_, .int _ _⟩
      have hl := g3.length
      simp [execOp, ho, g1, resolve, invoke, builtin, Builtin.len_, hu, hd, goInt, get_map g2, hl]
  · cases e
theorem Rel.putMap {W : World} {μ : Mu} {h : Hp} {w : World} (R : Rel W μ h w) {b : Nat} {i : BI} {es es' : List (Value × Value)} {cl' : Nat} {r' : Array MapEntry} (hb : μ b = some i) (ho : h.b.get b = some (.map es)) (hr : MapR μ es' r' cl') :
    Rel W μ ⟨h.n, h.b.put b (.map es')⟩ { w with heap := w.heap.setIfInBounds i.rb (.map r' cl') } := by
  obtain ⟨r, cl, r1, r2, r3⟩ := R.ob b i _ hb ho
  have hlt : i.rb < w.heap.size := (Array.getElem?_eq_some_iff.1 r1).1
  have hother : ∀ k, k ≠ i.rb → (w.heap.setIfInBounds i.rb (.map r' cl'))[k]? = w.heap[k]? := fun k hk => Array.getElem?_setIfInBounds_ne (Ne.symm hk)
  refine ⟨R.gl, R.dom, ?_, ?_, ⟨R.below.os, R.below.tape, R.below.output, by simpa using R.below.size, fun k hk => (hother k (by omega)).trans (R.below.block k hk)⟩⟩
  · intro b2 i2 o2 hb2 ho2
    simp only [Tr.get_put] at ho2
    by_cases e2 : b2 = b
    · subst e2
      rw [hb] at hb2; cases hb2
      simp at ho2; subst ho2
      exact ⟨r', cl', by simp [hlt], r2, hr⟩
    · simp [e2] at ho2
      refine (R.ob b2 i2 o2 hb2 ho2).move (Le.refl _) (hother _ ?_)
      intro hrb
      cases o2 with
      | cells c2 n2 z2 ti2 ro2 =>
        cases ro2 with
        | false => exact e2 (R.inj b2 b i2 i _ _ hb2 hb ho2 ho rfl trivial hrb)
        | true =>
          obtain ⟨_, _, _, _, _, _, _, _, _, _, k1, _⟩ := R.ob b2 i2 _ hb2 ho2
          have := k1 rfl
          omega
      | map es => exact e2 (R.inj b2 b i2 i _ _ hb2 hb ho2 ho trivial trivial hrb)
      | mark => exact e2 (R.inj b2 b i2 i _ _ hb2 hb ho2 ho trivial trivial hrb)
      | lock _ _ => exact e2 (R.inj b2 b i2 i _ _ hb2 hb ho2 ho trivial trivial hrb)
      | chan _ _ => exact e2 (R.inj b2 b i2 i _ _ hb2 hb ho2 ho trivial trivial hrb)
  · intro b1 b2 i1 i2 o1 o2 hb1 hb2 ho1 ho2 w1 w2 hrb
    have fix : ∀ {x : Nat} {o : Ob}, ((h.b.put b (.map es')).get x = some o) → o.wr → ∃ p, h.b.get x = some p ∧ p.wr := by
      intro x o hx hw
      rw [Tr.get_put] at hx
      by_cases hxb : x = b
      · subst hxb; exact ⟨_, ho, trivial⟩
      · rw [if_neg hxb] at hx; exact ⟨o, hx, hw⟩
    obtain ⟨p1, k1, l1⟩ := fix ho1 w1
    obtain ⟨p2, k2, l2⟩ := fix ho2 w2
    exact R.inj b1 b2 i1 i2 p1 p2 hb1 hb2 k1 k2 l1 l2 hrb
theorem ok_mapUpdate (C : CxOk P cx) {t : TypeId} {m k x : Operand} {d : TypeDesc} {ei : TI} (hm : mapOf cx t = some (d, ei)) (ho : o.op = .mapUpdate t m k x) :
    EffOk P o fun ρ h => match ρ m with
      | .map (some b) => (match h.b.get b with
        | some (.map es) => (match okKey d (ρ k), findE d (ρ k) es 0 with
          | true, some r => (match r with
            | some p => .ok undef ⟨h.n, h.b.put b (.map (modE (ρ k) (ρ x) es p.1))⟩
            | none => .ok undef ⟨h.n, h.b.put b (.map (es ++ [(ρ k, ρ x)]))⟩)
          | _, _ => .no)
        | _ => .no)
      | _ => .no := by
  intro W μ ρ ρ' h w v h' hop R e
  have hmm := mem_ops hop ho (x := m) (by simp [Op.operands])
  have hk := mem_ops hop ho (x := k) (by simp [Op.operands])
  have hx := mem_ops hop ho (x := x) (by simp [Op.operands])
  obtain ⟨⟨i, kt, et, ki, h1, h2, h3, h4, rfl, h6⟩⟩ := mapOf_ok (P := P) hm
  have hu := C.run_und h1
  rw [h2] at hu
  dsimp only at e
  split at e
  · rename_i b hmb
    split at e
    · rename_i es hb
      split at e
      · rename_i r hokk hf
        rw [hmb] at hmm
        generalize hr : ρ' m = m' at hmm
        cases hmm with
        | map hμ =>
          rename_i bi
          obtain ⟨arr, cl, r1, r2, r3⟩ := R.ob b bi _ hμ hb
          have hset := fun ob => set_map (P := P) ob r1
          obtain ⟨s, hks⟩ : ∃ s, kSh (ρ k) = some s := by
            unfold okKey at hokk
            split at hokk <;> (first | (cases hokk; done) | (split at hokk <;> first | (cases hokk; done) | skip))
            · rename_i hq; rw [hq]; exact ⟨_, rfl⟩
            · rename_i hq; rw [hq]; exact ⟨_, rfl⟩
            · rename_i hq; rw [hq]; exact ⟨_, rfl⟩
          have hkk := kSh_eq hk hks
          simp only [execOp, ho, hr, Instr.mapUpdate]
          rcases find_ok r3 hk hf with ⟨rfl, g2, g3⟩ | ⟨j, v1, i1, y, l, rfl, g2, g3, g4, g5, g6, g7, g8, g9, g10, g11⟩
          · cases e
            refine ⟨.skip, undef, _, μ, ?_, rfl, undefR μ, R.putMap hμ hb (es' := es ++ [(ρ k, ρ x)]) (cl' := cl + 1) (r' := arr.push { key := ρ' k, val := ρ' x, born := cl }) ?_, Ext.refl _ _, Nat.le_refl _⟩
            · simp only [Sem.run_bind, hu, Result.andThen_ok, get_map r1, run_checkKey C h3 h6, run_findKey C h3 g2, hset, Sem.run_pure]
            · obtain ⟨l, l1, l2⟩ := r3.ent
              refine ⟨⟨l ++ [{ key := ρ' k, val := ρ' x, born := cl }], by rw [Array.toList_push]; exact l1.append_right _, l2.append ⟨hk, hx, trivial⟩⟩, fun z hz => ?_, ?_, ?_, ?_⟩
              · rw [Array.toList_push] at hz
                rcases List.mem_append.1 hz with hz | hz
                · exact Nat.lt_succ_of_lt (r3.born z hz)
                · simp at hz; subst hz; exact Nat.lt_succ_self _
              · rw [Array.toList_push, List.map_append, List.nodup_append]
                refine ⟨r3.once, by simp, fun a ha b hb => ?_⟩
                obtain ⟨z, hz, rfl⟩ := List.mem_map.1 ha
                simp at hb; subst hb
                exact Nat.ne_of_lt (r3.born z hz)
              · rw [List.map_append, List.nodup_append]
                refine ⟨r3.keys, by simp, fun a ha b hb => ?_⟩
                obtain ⟨z, hz, rfl⟩ := List.mem_map.1 ha
                simp at hb; subst hb
                exact g3 z hz
              · cases es with
                | nil => exact ⟨s, fun z hz => by simp at hz; subst hz; exact hks⟩
                | cons e0 l0 =>
                  obtain ⟨s', hs'⟩ := r3.shape
                  obtain ⟨_, s2, q1, q2⟩ := (findE_facts hf).1 e0 l0 rfl
                  have : s2 = s' := by have := hs' e0 List.mem_cons_self; rw [q2] at this; exact Option.some.inj this
                  subst this
                  refine ⟨s2, fun z hz => ?_⟩
                  rcases List.mem_append.1 hz with hz | hz
                  · exact hs' z hz
                  · simp at hz; subst hz; exact q1
          · cases e
            have hstay : (Instr.keyThatStays (((arr[i1]?).map (·.key)).getD (ρ' k)) (ρ' k)).run P w = .ok (ρ' k) w := by
              unfold Instr.keyThatStays
              rw [g3]
              have : Instr.sameBits 10000 y.key (ρ' k) = true := by rw [g4, hkk]; exact same_bits hks _
              simp [this]
            refine ⟨.skip, undef, _, μ, ?_, rfl, undefR μ, R.putMap hμ hb (es' := modE (ρ k) (ρ x) es j) (cl' := cl) (r' := arr.modify i1 fun e => { e with key := ρ' k, val := ρ' x }) ?_, Ext.refl _ _, Nat.le_refl _⟩
            · simp only [Sem.run_bind, hu, Result.andThen_ok, get_map r1, run_checkKey C h3 h6, run_findKey C h3 g2, hstay, hset, Sem.run_pure]
            · have hmk := modE_keys (x := ρ x) g7
              have hborn : ((arr.modify i1 fun e => { e with key := ρ' k, val := ρ' x }).toList.map (·.born)) = arr.toList.map (·.born) := by
                rw [Array.toList_modify]; exact map_modify_same (f := fun e : MapEntry => { e with key := ρ' k, val := ρ' x }) (g := (·.born)) (fun _ => rfl) _ _
              refine ⟨⟨l.modify j fun e => { e with key := ρ' k, val := ρ' x }, by rw [Array.toList_modify]; exact perm_modify _ g8 g10 (by simpa using g3), modE_ok hk hx j g9⟩, fun z hz => ?_, by rw [hborn]; exact r3.once, by rw [hmk]; exact r3.keys, ?_⟩
              · have : z.born ∈ arr.toList.map (·.born) := by rw [← hborn]; exact List.mem_map_of_mem hz
                obtain ⟨z', hz', he⟩ := List.mem_map.1 this
                rw [← he]; exact r3.born z' hz'
              · obtain ⟨s', hs'⟩ := r3.shape
                refine ⟨s', fun z hz => ?_⟩
                have : z.1 ∈ es.map (·.1) := by rw [← hmk]; exact List.mem_map_of_mem hz
                obtain ⟨z', hz', he⟩ := List.mem_map.1 this
                rw [← he]; exact hs' z' hz'
      · cases e
    · cases e
  · cases e
theorem ok_makeMap {t : TypeId} (ho : o.op = .makeMap t none) : MakeOk P o fun _ => some ⟨.map [], fun b => .map (some b)⟩ := by
  intro W μ ρ ρ' h w m hop R em
  cases em
  refine ⟨.map (some w.heap.size), w.alloc (.map #[] 0), ⟨w.heap.size, 0, 0, 0, 0, default⟩, ?_, rfl, ⟨_, rfl⟩, rfl, rfl, rfl, fun b hb => ⟨.map (Mu.set_eq _ _ _), ⟨#[], 0, heap_new w _, R.below.size, ⟨⟨[], by simp, trivial⟩, fun x h => by simp at h, by simp, by simp, ⟨.kS, fun e h => by simp at h⟩⟩⟩⟩⟩
  simp [execOp, ho, Instr.makeMap]
end Go.EvM
namespace Go.EvM
set_option linter.unusedSectionVars false
variable [GLs]
open Go.RowKit
set_option linter.unusedVariables false
variable {P : Program} {cx : Cx} {o : Oper}
def CallOk (o : Oper) (f : Operand) (args : List Operand) : Prop :=
  (f ∈ o.op.operands.toList ∧ ∀ x ∈ args, x ∈ o.op.operands.toList) ∧
  ∀ (ρ : Env) (g : FuncId) (a c : Array Value), ρ f = .func (.func g) a c → execOp ρ o = callFunc g ((a ++ (args.map ρ).toArray) ++ c)
def DeferOk (o : Oper) (f : Operand) (args : List Operand) : Prop :=
  (f ∈ o.op.operands.toList ∧ ∀ x ∈ args, x ∈ o.op.operands.toList) ∧
  ∀ (ρ : Env) (g : FuncId) (a c : Array Value), ρ f = .func (.func g) a c → execOp ρ o = pure (.defer { target := .fn (.func g) c, args := a ++ (args.map ρ).toArray })
def ClsOk (P : Program) (o : Oper) : Cls → Prop
  | .pure f => PureOk P o f
  | .look f => LookOk P o f
  | .make f => MakeOk P o f
  | .eff f => EffOk P o f
  | .call f args => CallOk o f args
  | .defer f args => DeferOk o f args
  | .bad => True
theorem run_undef_notif (C : CxOk P cx) {t : TypeId} {i : TI} (h : cx.ti t = some i) (hi : isIf i.desc = false) : ∀ (w : World), ∃ d, (underlying t).run P w = .ok d w ∧ ∀ ms, d ≠ .interface ms := fun w => ⟨i.desc, C.run_und h w, fun ms e => by rw [e] at hi; cases hi⟩
theorem cls_mkIface (C : CxOk P cx) {t : TypeId} {x : Operand} (ho : o.op = .makeInterface t x) : ClsOk P o (cMkIface cx t x) := by
  unfold cMkIface
  split
  · rename_i i hi
    split
    · trivial
    · rename_i hd
      intro μ ρ ρ' w v hop e
      have hx := mem_ops hop ho (x := x) (by simp [Op.operands])
      cases e
      refine ⟨.iface t (ρ' x), ?_, .iface t hx⟩
      have hu := C.run_und hi w
      simp only [execOp, ho, Instr.makeInterface, Sem.run_bind, hu, Result.andThen_ok]
      cases hdd : i.desc <;> rw [hdd] at hd <;> first | (cases hd; done) | rfl
  · trivial
theorem cls_assert (C : CxOk P cx) {x : Operand} {u t : TypeId} {ok : Bool} (ho : o.op = .typeAssert x u t ok) : ClsOk P o (cAssert cx x t ok) := by
  unfold cAssert
  split
  · rename_i i hi
    split
    · trivial
    · rename_i hd
      intro μ ρ ρ' w v hop e
      have hx := mem_ops hop ho (x := x) (by simp [Op.operands])
      dsimp only at e
      have hu := C.run_und hi w
      obtain ⟨z1, z2⟩ := C.zv_ok hi w μ
      split at e
      · rename_i ty a hxa
        rw [hxa] at hx
        generalize hr : ρ' x = r at hx
        cases hx with
        | iface _ hv =>
          rename_i a'
          cases hb : Nat.beq ty t with
          | true =>
            rw [hb] at e
            have hb := Nat.eq_of_beq_eq_true hb
            subst hb
            have e : some (okV ok a true) = some v := e
            cases e
            refine ⟨_, ?_, okV_VR hv ok true⟩
            simp only [execOp, ho, Instr.typeAssert, Sem.run_bind, hu, Result.andThen_ok, hr]
            cases hdd : i.desc <;> rw [hdd] at hd <;> first | (cases hd; done) | simp
          | false =>
            rw [hb] at e
            have hb := Nat.ne_of_beq_eq_false hb
            cases ok with
            | true =>
              have e : some (okV true i.zv false) = some v := e
              cases e
              refine ⟨_, ?_, okV_VR z2 true false⟩
              simp only [execOp, ho, Instr.typeAssert, Sem.run_bind, hu, Result.andThen_ok, hr]
              cases hdd : i.desc <;> rw [hdd] at hd <;> first | (cases hd; done) | simp [hb, z1]
            | false => cases e
      · rename_i hxa
        rw [hxa] at hx
        generalize hr : ρ' x = r at hx
        cases hx
        split at e
        · cases e
          refine ⟨_, ?_, okV_VR z2 true false⟩
          simp only [execOp, ho, Instr.typeAssert, Sem.run_bind, hu, Result.andThen_ok, hr]
          cases hdd : i.desc <;> rw [hdd] at hd <;> first | (cases hd; done) | simp [z1]
        · cases e
      · cases e
  · trivial
theorem cls_clear (C : CxOk P cx) {t : TypeId} {x : Operand} (ho : o.op = .call { callee := .builtin .clear, args := #[x], argTypes := #[t] }) : ClsOk P o (cClear cx t x) := by
  unfold cClear
  split
  · rename_i i hi
    split
    · rename_i e hd
      split
      · rename_i ei he
        split
        · rename_i hpos
          have hpos := blt_lt hpos
          intro W μ ρ ρ' h w v h' hop R e
          have hx := mem_ops hop ho (x := x) (by simp [Op.operands, Call.operands])
          dsimp only at e
          have hu := C.run_und hi w
          rw [hd] at hu
          split at e
          · rename_i n c hxa
            rw [hxa] at hx
            generalize hr : ρ' x = r at hx
            cases e
            cases hx
            refine ⟨.value (.tuple #[]), undef, w, μ, ?_, rfl, undefR μ, R, Ext.refl _ _, Nat.le_refl _⟩
            simp [execOp, ho, hr, resolve, invoke, builtin, Builtin.clear_, hu]
          · rename_i b off n c hxa
            rw [hxa] at hx
            generalize hr : ρ' x = r at hx
            cases hx with
            | slice _ _ _ xx ra hb hlc hxx hra =>
              rename_i bi
              split at e
              · cases e
                refine ⟨.value (.tuple #[]), undef, w, μ, ?_, rfl, undefR μ, R, Ext.refl _ _, Nat.le_refl _⟩
                simp [execOp, ho, hr, resolve, invoke, builtin, Builtin.clear_, hu]
              · rename_i n' 
                split at e
                · rename_i h2 hput
                  cases e
                  have hra : ra = ⟨bi.rb, bi.d + off, none⟩ := by
                    rcases hra with h | ⟨h, _⟩
                    · exact h
                    · omega
                  subst hra
                  obtain ⟨z, hz, hzc⟩ := C.run_zero he w
                  obtain ⟨p1, p2⟩ := plains_VRs C he μ (Nat.succ n')
                  obtain ⟨k1, k2, k3⟩ := R.putCells (P := P) hb hput p1 p2
                  have hlen := C.zero_len he
                  have hzl : (Builtin.zeroCells z.cells (n' + 1)).toList = repL ei.zero (n' + 1) := by
                    rw [zeroCells_ok _ _ (by rw [← Array.length_toList, hzc, hlen]; exact hpos), hzc]
                  refine ⟨.value (.tuple #[]), undef, _, μ, ?_, rfl, undefR μ, k2, Ext.refl _ _, by rw [k3]; exact Nat.le_refl _⟩
                  simp [execOp, ho, hr, resolve, invoke, builtin, Builtin.clear_, hu, hz, hzl]
                  rw [k1]; simp
                · cases e
          · cases e
        · trivial
      · trivial
    · trivial
  · trivial
end Go.EvM
namespace Go.EvM
set_option linter.unusedSectionVars false
variable [GLs]
open Go.RowKit
set_option linter.unusedVariables false
variable {P : Program} {cx : Cx} {o : Oper}
theorem sameE_equal {d : TypeDesc} {a b a' b' : Value} {r : Bool} {μ : Mu} (ha : VR μ a a') (hb : VR μ b b') (h : sameE d a b = some r) (w : World) (t : TypeId) (hu : P.underlying t = some d) (n : Nat) :
    (Op.equalIn (n + 1) t a' b').run P w = .ok r w := by
  have hun : (underlying t).run P w = .ok d w := by simp [underlying, hu]
  unfold sameE at h
  split at h
  · split at h
    · rename_i k x l y
      cases ha; cases hb
      split at h
      · rename_i hk
        have hk := of_decide_eq_true hk
        subst hk
        cases h
        simp only [Op.equalIn, Sem.run_bind, hun, Result.andThen_ok, if_true, Sem.run_pure, eqI_eq]
      · cases h
    · cases h
  · split at h
    · rename_i x y
      cases ha; cases hb
      cases h
      simp only [Op.equalIn, Sem.run_bind, hun, Result.andThen_ok, Sem.run_pure, eqL_eq, bytes_beq]
    · cases h
  · split at h
    · rename_i x y
      cases ha; cases hb
      cases h
      simp only [Op.equalIn, Sem.run_bind, hun, Result.andThen_ok, Sem.run_pure]
      cases x <;> cases y <;> rfl
    · cases h
  · cases h
theorem run_part {t : TypeId} {d : TypeDesc} {xs : Array Value} {off : Nat} {v : Value} (hu : P.underlying t = some d) (hk : keyD d = true) (h : xs[off]? = some v) (w : World) : (part t xs off).run P w = .ok v w := by
  have hagg : (isAgg t).run P w = .ok false w := by
    simp only [isAgg, Sem.run_bind, underlying]
    cases d <;> first | (cases hk; done) | simp [hu]
  unfold part
  simp only [Sem.run_bind, hagg, Result.andThen_ok, Bool.false_eq_true, if_false, h, Sem.run_pure]
theorem eqFields_ok {μ : Mu} {xs ys xs' ys' : List Value} (hx : VRs μ xs xs') (hy : VRs μ ys ys') (w : World) (n : Nat) : ∀ {fs : List Field} {ls : List (Nat × TypeDesc)} {b : Bool}, LeavesOf P fs ls → eqLv ls xs ys = some b →
    (Op.eqFields (n + 1) ⟨xs'⟩ ⟨ys'⟩ fs).run P w = .ok b w
  | [], [], b, _, h => by cases h; simp [Op.eqFields]
  | f :: fs, p :: ls, b, ⟨h1, h2, h3, h4, h5⟩, h => by
    have h : (match nth xs p.1, nth ys p.1 with
      | some a, some b => (match sameE p.2 a b with
        | some c => (match c with
          | true => eqLv ls xs ys
          | false => some false)
        | none => none)
      | _, _ => none) = some b := h
    split at h
    · rename_i a c ha hc
      rw [nth_eq] at ha hc
      obtain ⟨a', ha1, ha2⟩ := hx.get ha
      obtain ⟨c', hc1, hc2⟩ := hy.get hc
      have e1 := run_part (xs := ⟨xs'⟩) (off := f.offset) h3 h4 (by rw [h2]; simpa using ha1) w
      have e2 := run_part (xs := ⟨ys'⟩) (off := f.offset) h3 h4 (by rw [h2]; simpa using hc1) w
      split at h
      · rename_i r hr
        have e3 := sameE_equal ha2 hc2 hr w f.type h3 n
        simp only [Op.eqFields, if_pos h1, Sem.run_bind, e1, Result.andThen_ok, e2, e3, Sem.run_ite]
        cases r with
        | true => simp only [Bool.not_true, Bool.false_eq_true, if_false]; exact eqFields_ok hx hy w n h5 h
        | false => cases h; simp only [Bool.not_false, if_true, Sem.run_pure]
      · cases h
    · cases h
  | [], _ :: _, _, h, _ => h.elim
  | _ :: _, [], _, h, _ => h.elim
theorem ok_eqAgg (C : CxOk P cx) {ne : Bool} {t u : TypeId} {x y : Operand} {ls : List (Nat × TypeDesc)} (hl : cx.eqs t = some ls) (ho : o.op = .binOp (eqOp ne) t x y u) :
    PureOk P o fun ρ => eqAgg ls ne (ρ x) (ρ y) := by
  intro μ ρ ρ' w v hop h
  have hx := mem_ops hop ho (x := x) (by simp [Op.operands])
  have hy := mem_ops hop ho (x := y) (by simp [Op.operands])
  obtain ⟨fs, h1, h2, h3, h4⟩ := C.eqs t ls hl
  have h : eqAgg ls ne (ρ x) (ρ y) = some v := h
  unfold eqAgg at h
  split at h
  · rename_i xs ys ex ey
    rw [ex] at hx; rw [ey] at hy
    obtain ⟨xs⟩ := xs; obtain ⟨ys⟩ := ys
    generalize hX : ρ' x = X at hx
    generalize hY : ρ' y = Y at hy
    cases hx with
    | agg hx _ =>
      cases hy with
      | agg hy _ =>
        rename_i xs' _ ys' _
        split at h
        · rename_i b hb
          cases h
          have hfo : P.fieldsOf t = fs := by simp [Program.fieldsOf, h1]
          have he : (Op.equalIn 10000 t (.agg ⟨xs'⟩) (.agg ⟨ys'⟩)).run P w = .ok b w := by
            rw [run_equalIn_struct w 9999 t _ _ (by rw [hfo]; exact h1) h2, hfo]
            exact eqFields_ok hx hy w 9998 h4 hb
          refine ⟨.bool (turn ne b), ?_, .bool _⟩
          simp only [execOp, ho, hX, hY, Sem.run_bind, run_eqGuard_agg w _ t x y _ _ h3, Result.andThen_ok]
          cases ne with
          | true => simp only [eqOp, run_neq_struct, he, Result.andThen_ok, turn, Sem.run_pure]
          | false => simp only [eqOp, run_eql_struct, he, Result.andThen_ok, turn, Sem.run_pure]
        · cases h
  · cases h
end Go.EvM
namespace Go.EvM
set_option linter.unusedSectionVars false
variable [GLs]
open Go.RowKit
set_option linter.unusedVariables false
variable {P : Program} {cx : Cx} {o : Oper}
theorem ok_eqPtr (C : CxOk P cx) {ne : Bool} {t u : TypeId} {x y : Operand} {i : TI} (ht : cx.ti t = some i) (hp : ptrTo cx i.desc = true) (ho : o.op = .binOp (eqOp ne) t x y u) :
    PureOk P o fun ρ => eqPtr i.desc ne (ρ x) (ρ y) := by
  intro μ ρ ρ' w v hop e
  have h1 := mem_ops hop ho (x := x) (by simp [Op.operands])
  have h2 := mem_ops hop ho (x := y) (by simp [Op.operands])
  have hgen := ok_eq (P := P) C ht ho μ ρ ρ' w v hop
  have e : eqPtr i.desc ne (ρ x) (ρ y) = some v := e
  unfold eqPtr at e
  split at e
  · rename_i b p c q ex ey
    split at e
    · rename_i hbc
      cases e
      have hbc := Nat.eq_of_beq_eq_true hbc
      subst hbc
      rw [ex] at h1; rw [ey] at h2
      generalize hX : ρ' x = X at h1
      generalize hY : ρ' y = Y at h2
      cases h1 with
      | ptr _ m1 =>
        cases h2 with
        | ptr _ m2 =>
          rw [m1] at m2; cases m2
          rename_i bi
          obtain ⟨_, _, _, hu, _⟩ := C.ti t i ht
          unfold ptrTo at hp
          split at hp
          · rename_i el hd
            split at hp
            · rename_i ei hei
              have hsz := blt_lt hp
              have hs := C.run_size hei w
              have hb : ((⟨bi.rb, bi.d + p, none⟩ : Addr) == ⟨bi.rb, bi.d + q, none⟩) = Nat.beq p q := by
                rw [Bool.eq_iff_iff]
                simp [Nat.beq_eq]
              have hun : (underlying t).run P w = .ok (.pointer el) w := by simp [underlying, hu, hd]
              have hne : ¬ ei.size = 0 := by omega
              have hsame : (sameAddr ⟨bi.rb, bi.d + p, none⟩ ⟨bi.rb, bi.d + q, none⟩).run P w = .ok (Nat.beq p q) w := by
                unfold sameAddr
                simp only [beq_self_eq_true, if_true]
                rw [hb]
                rfl
              have hall : ∀ n, (Op.equalIn (n + 1) t (.pointer (some ⟨bi.rb, bi.d + p, none⟩)) (.pointer (some ⟨bi.rb, bi.d + q, none⟩))).run P w = .ok (Nat.beq p q) w := by
                intro n
                simp only [Op.equalIn, Sem.run_bind, hun, Result.andThen_ok, hs]
                rw [if_pos hne]
                exact hsame
              have he : (Op.equal t (.pointer (some ⟨bi.rb, bi.d + p, none⟩)) (.pointer (some ⟨bi.rb, bi.d + q, none⟩))).run P w = .ok (Nat.beq p q) w := hall 9999
              have hg : ∀ op, eqGuard op t x y (.pointer (some ⟨bi.rb, bi.d + p, none⟩)) (.pointer (some ⟨bi.rb, bi.d + q, none⟩)) = pure () := by
                intro op; cases op <;> rfl
              have hbin : (binOp (eqOp ne) t (.pointer (some ⟨bi.rb, bi.d + p, none⟩)) (.pointer (some ⟨bi.rb, bi.d + q, none⟩))).run P w = .ok (.bool (turn ne (Nat.beq p q))) w := by
                cases ne <;> simp [binOp, eqOp, turn, he]
              refine ⟨_, ?_, .bool _⟩
              unfold execOp; rw [ho]; dsimp only; rw [hX, hY]
              exact run_v (by simp only [hg, pure_bind, hbin])
            · cases hp
          · cases hp
    · cases e
  · exact hgen e
theorem shape_cells {w : World} {r : Nat} {cs : Array Value} {e : TypeId} {fz : Nat × Nat} (h : w.heap[r]? = some (.cells cs e fz)) : w.shape? r = some (e, cs.size) := by
  simp [World.shape?, h]
theorem run_seenAt {w : World} {a : Addr} {cs : Array Value} {e : TypeId} {fz : Nat × Nat} (h : w.heap[a.block]? = some (.cells cs e fz)) : (Conv.seenAt a).run P w = .ok a w := by
  simp [Conv.seenAt, viewAt, shape_cells h]
theorem ok_toUns (C : CxOk P cx) {a b t : TypeId} {x : Operand} {si di i : TI} (hs : cx.ti a = some si) (hd : cx.ti b = some di) (h1 : si.desc = .pointer t) (h2 : di.desc = .unsafePointer) (hi : cx.ti t = some i) (hz : Nat.blt 0 i.size = true) (ho : o.op = .convert a b x) :
    LookOk P o fun ρ h => toUns h (ρ x) := by
  intro W μ ρ ρ' h w v hop R e
  have hc := mem_ops hop ho (x := x) (by simp [Op.operands])
  have u1 := C.run_und hs w
  have u2 := C.run_und hd w
  rw [h1] at u1; rw [h2] at u2
  have hsz := C.run_size hi w
  have hz := blt_lt hz
  have e : toUns h (ρ x) = some v := e
  unfold toUns at e
  split at e
  · rename_i hq
    cases e
    rw [hq] at hc
    generalize hr : ρ' x = r at hc
    cases hc
    exact ⟨_, by simp [execOp, ho, hr, convert, u1, u2, Conv.unsafePointer], .nilp⟩
  · rename_i bb off hq
    split at e
    · rename_i c n z ti ro hob
      split at e
      · rename_i hlt
        cases e
        have hlt := blt_lt hlt
        rw [hq] at hc
        generalize hr : ρ' x = r at hc
        cases hc with
        | ptr _ hm =>
          rename_i bi
          obtain ⟨cs, et, fz, r1, r2, r3, r4, r5, _⟩ := R.ob bb bi _ hm hob
          have hsh := shape_cells r1
          have hseen := run_seenAt (P := P) (a := ⟨bi.rb, bi.d + off, none⟩) r1
          have hnot : ¬ (bi.d + off ≥ cs.size) := by omega
          have hne : ¬ i.size = 0 := by omega
          refine ⟨.pointer (some ⟨bi.rb, bi.d + off, none⟩), ?_, .ptr off hm⟩
          have hcells : (cellsIn bi.rb).run P w = .ok (some cs.size) w := by simp [cellsIn, hsh]
          simp [execOp, ho, hr, convert, u1, u2, Conv.unsafePointer, hseen, hcells, hsz, hne, hnot]
      · cases e
    · cases e
  · cases e
theorem ok_ofUns (C : CxOk P cx) {a b u : TypeId} {x : Operand} {si di i : TI} (hs : cx.ti a = some si) (hd : cx.ti b = some di) (h1 : si.desc = .unsafePointer) (h2 : di.desc = .pointer u) (hi : cx.ti u = some i) (hz : Nat.blt 0 i.size = true) (ho : o.op = .convert a b x) :
    LookOk P o fun ρ h => ofUns cx u h (ρ x) := by
  intro W μ ρ ρ' h w v hop R e
  have hc := mem_ops hop ho (x := x) (by simp [Op.operands])
  have u1 := C.run_und hs w
  have u2 := C.run_und hd w
  rw [h1] at u1; rw [h2] at u2
  have hsz := C.run_size hi w
  have hz := blt_lt hz
  have e : ofUns cx u h (ρ x) = some v := e
  unfold ofUns at e
  split at e
  · rename_i hq
    cases e
    rw [hq] at hc
    generalize hr : ρ' x = r at hc
    cases hc
    exact ⟨_, by simp [execOp, ho, hr, convert, u1, u2, Conv.unsafePointer], .nilp⟩
  · rename_i bb off hq
    split at e
    · rename_i c n z ro hob
      split at e
      · rename_i el hel
        split at e
        · rename_i hlies
          cases e
          rw [hq] at hc
          generalize hr : ρ' x = r at hc
          cases hc with
          | ptr _ hm =>
            rename_i bi
            obtain ⟨cs, et, fz, r1, r2, r3, r4, r5, _⟩ := R.ob bb bi _ hm hob
            have hsh := shape_cells r1
            have hseen := run_seenAt (P := P) (a := ⟨bi.rb, bi.d + off, none⟩) r1
            have hne : ¬ i.size = 0 := by omega
            obtain ⟨q1, q2⟩ := r2.2 el hel
            have q2 := q2 rfl
            have hd0 := (r4 rfl).2
            have hl := C.lies el n off u hlies
            have hl2 : liesAt P P.depth et (cs.size / P.cellsOf et) (bi.d + off) u 1 = true := by rw [q1, q2, hd0, Nat.zero_add]; exact hl
            have hva : (variablesAt ⟨bi.rb, bi.d + off, none⟩ u 1).run P w = .ok true w := by simp [variablesAt, hsh, hl2]
            refine ⟨.pointer (some ⟨bi.rb, bi.d + off, none⟩), ?_, .ptr off hm⟩
            simp [execOp, ho, hr, convert, u1, u2, Conv.unsafePointer, hseen, hsz, hne, hva]
        · cases e
      · cases e
    · cases e
  · cases e
theorem ok_sliceData {x : Operand} {ts : Array TypeId} (ho : o.op = .call { callee := .builtin .unsafeSliceData, args := #[x], argTypes := ts }) :
    PureOk P o fun ρ => match ρ x with
      | .slice none _ _ => some (.pointer none)
      | .slice (some a) _ (Nat.succ _) => some (.pointer (some a))
      | _ => none := by
  intro μ ρ ρ' w v hop e
  have hc := mem_ops hop ho (x := x) (by simp [Op.operands, Call.operands])
  dsimp only at e
  split at e
  · rename_i hq
    cases e
    rw [hq] at hc
    generalize hr : ρ' x = r at hc
    cases hc
    exact ⟨_, by simp [execOp, ho, hr, resolve, invoke, builtin, Lib.run_unsafeSliceData_nil], .nilp⟩
  · rename_i a l c hq
    cases e
    rw [hq] at hc
    generalize hr : ρ' x = r at hc
    cases hc with
    | slice off _ _ xx ra hm hle hor hra =>
      rename_i bi
      obtain rfl := hra.resolve_right (fun h => by cases h.1)
      refine ⟨_, ?_, .ptr off hm⟩
      have := Lib.run_unsafeSliceData_row (P := P) w ts o.type ⟨bi.rb, bi.d + off, none⟩ l (c + 1 + xx) (by omega)
      simp [execOp, ho, hr, resolve, invoke, builtin, this]
  · cases e
theorem lies_at {e : TypeId} (hc : P.cellsOf e = 1) (count off n : Nat) (hn : off + n ≤ count) : liesAt P P.depth e count off e n = true := by
  have hd : P.depth = (2 * (P.types.size + Made.depth) + 1) + 1 := rfl
  rw [hd]
  simp only [liesAt, Bool.or_eq_true]
  left
  rw [hd]
  simp [rowAt, hc, hn, sameLayout, Nat.mod_one]
theorem run_loadInts (w : World) : ∀ (ns : List Int) (a : Addr) (acc : ByteArray), (∀ j n, ns[j]? = some n → w.cell? (a.add j) = some (.int .u8 n)) →
    (loadBytes a acc ns.length).run P w = .ok ⟨acc.data ++ (ns.map fun n => UInt8.ofNat n.toNat).toArray⟩ w
  | [], a, acc, _ => by simp [loadBytes]
  | x :: l, a, acc, h => by
    have h0 : w.cell? a = some (.int .u8 x) := by
      have := h 0 x rfl
      simpa [Addr.add] using this
    have ih := run_loadInts w l (a.add 1) (acc.push x.toNat.toUInt8) (fun j y hy => by
      have := h (j + 1) y (by simpa using hy)
      have e : (a.add 1).add j = a.add (j + 1) := by
        unfold Addr.add
        by_cases hj : j = 0
        · subst hj; simp
        · simp [hj]; omega
      rw [e]; exact this)
    simp only [List.length_cons, loadBytes, Sem.run_bind, run_load, h0, Result.andThen]
    rw [ih]
    congr 1
    apply ByteArray.ext
    simp [ByteArray.push]
theorem run_uStr {w : World} (pt it ty e : TypeId) (hp : P.underlying pt = some (.pointer e)) (hc : P.cellsOf e = 1) (g d cells : Nat) (hsh : w.shape? g = some (e, cells)) (l : List Int) (h0 : l ≠ []) (hn : d + l.length ≤ cells) (h63 : l.length ≤ 9223372036854775807)
    (hcell : ∀ j n, l[j]? = some n → w.cell? ((⟨g, d, none⟩ : Addr).add j) = some (.int .u8 n)) :
    (Builtin.unsafeString_ #[pt, it] ty #[.pointer (some ⟨g, d, none⟩), .int .i64 l.length]).run P w = .ok (.string ⟨(l.map fun n => UInt8.ofNat n.toNat).toArray⟩) (w.freeze ⟨g, d, none⟩ l.length) := by
  have hl : l.length ≠ 0 := by simpa using h0
  have hlb := run_loadInts (P := P) w l ⟨g, d, none⟩ .empty hcell
  have hlies := lies_at (P := P) hc (cells / P.cellsOf e) d l.length (by rw [hc]; simpa using hn)
  have h63' : ¬ (9223372036854775807 : Int) < (l.length : Int) := by omega
  have hdef : Builtin.unsafeString_ #[pt, it] ty #[.pointer (some ⟨g, d, none⟩), .int .i64 l.length] =
      (do
        let n ← asInt (.int .i64 l.length)
        if n < 0 then runtimePanic (.error "unsafe.String: len out of range")
        if n > IntKind.i64.max then unsupported (.unsafePointer "String: a length above the largest int")
        if n = 0 then pure (.string .empty)
        else if ← variablesAt ⟨g, d, none⟩ (← elemOf pt) n.toNat then do
          let s ← loadBytes ⟨g, d, none⟩ .empty n.toNat
          freeze ⟨g, d, none⟩ n.toNat
          pure (.string s)
        else unsupported (.unsafePointer "String: not so many bytes at ptr")) := rfl
  rw [hdef]
  have hmax : IntKind.i64.max = 9223372036854775807 := rfl
  have hneg : ¬ (l.length : Int) < 0 := by omega
  simp [asInt, asIntOf, hmax, h63', hneg, hl, variablesAt, hsh, elemOf, run_underlying hp, hlies, hlb]
theorem bytes_cells {μ : Mu} {l l' : List Value} {r : List UInt8} (h : VRs μ l l') (e : bytesOf l = some r) : ∃ ns : List Int, l = ns.map (Value.int .u8) ∧ r = (ns.map fun n => UInt8.ofNat n.toNat) ∧ ∀ (j : Nat) (n : Int), ns[j]? = some n → l'[j]? = some (Value.int .u8 n) := by
  obtain ⟨ns, rfl, rfl⟩ := bytesOf_ok e
  refine ⟨ns, rfl, rfl, fun j n hn => ?_⟩
  have hl : (ns.map (Value.int .u8))[j]? = some (.int .u8 n) := by rw [List.getElem?_map, hn]; rfl
  obtain ⟨v, hv, hr⟩ := h.get hl
  cases hr
  exact hv
theorem freeze_other (w : World) (a : Addr) (n r : Nat) (h : r ≠ a.block) : (w.freeze a n).heap[r]? = w.heap[r]? := by
  unfold World.freeze
  split
  · rfl
  · simp only [Array.getElem?_modify]
    rw [if_neg (fun e => h e.symm)]
theorem Rel.freezeAt {W : World} {μ : Mu} {h : Hp} {w : World} (R : Rel W μ h w) {b : Nat} {i : BI} {c : Tr Value} {k : Nat} {z : ZT} {ti : Bool} (hb : μ b = some i) (ho : h.b.get b = some (.cells c k z ti false)) (a : Addr) (ha : a.block = i.rb) (n : Nat) :
    Rel W μ ⟨h.n, h.b.del b⟩ (w.freeze a n) := by
  obtain ⟨cs, et, fz, r1, r2, r3, r4, r5, r6, r7, r8, r9⟩ := R.ob b i _ hb ho
  have hN := (r9 rfl).1
  have old : ∀ {x o}, (h.b.del b).get x = some o → x ≠ b ∧ h.b.get x = some o := fun {x o} hx => by
    rw [Tr.get_del] at hx
    split at hx
    · cases hx
    · rename_i hne; exact ⟨hne, hx⟩
  refine ⟨R.gl, R.dom, fun d j o hd hod => ?_, fun d e j k o p hd he hod hep wo wp hjk => R.inj d e j k o p hd he (old hod).2 (old hep).2 wo wp hjk, Lib.below_freeze R.below (by rw [ha]; exact hN) n⟩
  obtain ⟨hne, hod⟩ := old hod
  have ro := R.ob d j o hd hod
  refine ro.move (Le.refl _) (freeze_other w a n _ fun hrb => ?_)
  rw [ha] at hrb
  cases o with
  | cells c2 n2 z2 ti2 ro2 =>
    cases ro2 with
    | false => exact hne (R.inj d b j i _ _ hd hb hod ho rfl rfl hrb)
    | true =>
      obtain ⟨_, _, _, _, _, _, _, _, _, _, k1, _⟩ := ro
      have := k1 rfl
      omega
  | map es => exact hne (R.inj d b j i _ _ hd hb hod ho trivial rfl hrb)
  | mark => exact hne (R.inj d b j i _ _ hd hb hod ho trivial rfl hrb)
  | lock _ _ => exact hne (R.inj d b j i _ _ hd hb hod ho trivial rfl hrb)
  | chan _ _ => exact hne (R.inj d b j i _ _ hd hb hod ho trivial rfl hrb)
theorem ok_uStr (C : CxOk P cx) {t it e : TypeId} {p n : Operand} {i : TI} (ht : cx.ti t = some i) (hd : i.desc = .pointer e) (h1 : cx.one e = true) (ho : o.op = .call { callee := .builtin .unsafeString, args := #[p, n], argTypes := #[t, it] }) :
    EffOk P o fun ρ h => uStr e h (ρ p) (match ρ n with | .int .i64 (.ofNat k) => some k | _ => none) := by
  intro W μ ρ ρ' h w v h' hop R ev
  have hp := mem_ops hop ho (x := p) (by simp [Op.operands, Call.operands])
  have hn := mem_ops hop ho (x := n) (by simp [Op.operands, Call.operands])
  obtain ⟨_, _, _, hu, _⟩ := C.ti t i ht
  rw [hd] at hu
  have hexec : ∀ {r : Value} {w' : World}, (Builtin.unsafeString_ #[t, it] o.type #[ρ' p, ρ' n]).run P w = .ok r w' → (execOp ρ' o).run P w = .ok (.value r) w' := by
    intro r w' hr
    simp [execOp, ho, resolve, invoke, builtin, hr]
  have ev : uStr e h (ρ p) (match ρ n with | .int .i64 (.ofNat k) => some k | _ => none) = .ok v h' := ev
  have hnat : ∀ k, (match ρ n with | .int .i64 (.ofNat k) => some k | _ => none) = some k → ρ' n = .int .i64 (k : Int) := fun k hk => by
    split at hk
    · rename_i k' hq
      cases hk
      rw [hq] at hn
      generalize ρ' n = y at hn
      cases hn; rfl
    · cases hk
  generalize (match ρ n with | .int .i64 (.ofNat k) => some k | _ => none) = nn at ev hnat
  unfold uStr at ev
  split at ev
  · rename_i a hq
    cases ev
    rw [hq] at hp
    generalize hr : ρ' p = r at hp hexec
    have hnn := hnat 0 rfl
    rw [hnn] at hexec
    have hpp : ∃ a', r = .pointer a' := by cases hp <;> exact ⟨_, rfl⟩
    obtain ⟨a', rfl⟩ := hpp
    exact ⟨_, _, _, μ, hexec (Lib.run_unsafeString_none w t it o.type a'), rfl, .string _, R, Ext.refl _ _, Nat.le_refl _⟩
  · rename_i m b off hq
    split at ev
    · rename_i c k z ti hob
      split at ev
      · rename_i el l hel hl
        split at ev
        · rename_i r hbe hr
          split at ev
          · rename_i hlim
            cases ev
            have hbe := Nat.eq_of_beq_eq_true hbe
            subst hbe
            have hlim := blt_lt hlim
            rw [hq] at hp
            generalize hrp : ρ' p = pp at hp hexec
            have hnn := hnat (m + 1) rfl
            rw [hnn] at hexec
            cases hp with
            | ptr _ hm =>
              rename_i bi
              obtain ⟨cs, et, fz, r1, r2, r3, r4, r5, r6, r7, r8, r9⟩ := R.ob b bi _ hm hob
              obtain ⟨l', g1, g2, g3, g4, g5⟩ := R.cells hm hob hl
              obtain ⟨ns, b1, b2, b3⟩ := bytes_cells g1 hr
              subst b2
              have hel2 := (r2.2 el hel).1
              subst hel2
              have hlen : ns.length = m + 1 := by
                have g3' : l.length = m + 1 := g3
                rw [← g3', b1]; simp
              have hg5 := g5.resolve_left (by omega)
              have hnd : ns ≠ [] := fun h0 => by rw [h0] at hlen; simp at hlen
              have hrun := run_uStr (P := P) (w := w) t it o.type et hu (C.one et h1) bi.rb (bi.d + off) cs.size (shape_cells r1) ns hnd (by omega) (by have := lim63_eq; omega) (fun j n hj => g4 j _ (b3 j n hj))
              rw [hlen] at hrun
              refine ⟨_, _, _, μ, hexec hrun, rfl, .string _, R.freezeAt hm hob _ rfl _, Ext.refl _ _, Nat.le_refl _⟩
          · cases ev
        · cases ev
      · cases ev
    · cases ev
  · cases ev
end Go.EvM
namespace Go.EvM
set_option linter.unusedSectionVars false
variable [GLs]
open Go.RowKit
set_option linter.unusedVariables false
variable {P : Program} {cx : Cx} {o : Oper}
theorem chanBuf_ok {W : World} {μ : Mu} {h : Hp} {w : World} (R : Rel W μ h w) {x x' : Value} (hx : VR μ x x') {c : Nat} {l : List Value} (e : chanBuf h x = some (c, l)) :
    ∃ b i vs s r, x = .chan (some (Nat.succ b)) ∧ μ b = some i ∧ h.b.get b = some (.chan c l) ∧ x' = .chan (some i.rb) ∧ w.heap[i.rb]? = some (.chan c ⟨vs⟩ false s r false) ∧ VRs μ l vs ∧ W.heap.size ≤ i.rb := by
  unfold chanBuf at e
  split at e
  · rename_i b
    split at e
    · rename_i c1 l1 hb
      cases e
      cases hx with
      | chan hi =>
        rename_i i
        obtain ⟨vs, s, r, h1, h2, h3⟩ := R.ob b i _ hi hb
        exact ⟨b, i, vs, s, r, rfl, hi, hb, rfl, h1, h2, h3⟩
    · cases e
  · cases e
theorem ok_lenC (C : CxOk P cx) {t : TypeId} {x : Operand} {i : TI} {dr : ChanDir} {et : TypeId} (ht : cx.ti t = some i) (hd : i.desc = .chan dr et) (ho : o.op = .call { callee := .builtin .len, args := #[x], argTypes := #[t] }) :
    LookOk P o fun ρ h => (match chanBuf h (ρ x) with | some p => some (.int .i64 (.ofNat p.2.length)) | none => none) := by
  intro W μ ρ ρ' h w v hop R e
  have hx := mem_ops hop ho (x := x) (by simp [Op.operands, Call.operands])
  have hu := C.run_und ht w
  dsimp only at e
  split at e
  · rename_i p hp
    obtain ⟨c, l⟩ := p
    cases e
    obtain ⟨b, j, vs, s, r, g1, g2, g3, g4, g5, g6, g7⟩ := chanBuf_ok R hx hp
    refine ⟨_, ?_, .int _ _⟩
    have hl := g6.length
    simp [execOp, ho, g4, resolve, invoke, builtin, Builtin.len_, hu, hd, goInt, getObj, Sem.run, g5, hl]
  · cases e
theorem ok_makeChan (C : CxOk P cx) {t e : TypeId} {n : Operand} {i ei : TI} {dr : ChanDir} (ht : cx.ti t = some i) (hd : i.desc = .chan dr e) (he : cx.ti e = some ei) (ho : o.op = .makeChan t n) :
    MakeOk P o fun ρ => (match ρ n with
        | .int _ (.ofNat m) => bif Nat.ble m 1000 && Nat.ble ei.bytes 1000000 then some ⟨.chan m [], fun b => .chan (some (Nat.succ b))⟩ else none
        | _ => none) := by
  intro W μ ρ ρ' h w m hop R em
  have hn := mem_ops hop ho (x := n) (by simp [Op.operands])
  dsimp only at em
  split at em
  · rename_i k q hq
    cases hb : (Nat.ble q 1000 && Nat.ble ei.bytes 1000000) with
    | false => rw [hb] at em; cases em
    | true =>
      rw [hb] at em; cases em
      rw [Bool.and_eq_true] at hb
      have h1 := Nat.le_of_ble_eq_true hb.1
      have h2 := Nat.le_of_ble_eq_true hb.2
      rw [hq] at hn
      generalize hr : ρ' n = r at hn
      cases hn
      obtain ⟨f, z, k1, k2, k3, k4, _⟩ := C.ti e ei he
      obtain ⟨_, _, _, q2, _⟩ := C.ti t i ht
      have hrun := Go.Conc.run_makeChan (P := P) (w := w) (q2.trans (congrArg some hd)) k1 k q (by omega) (by
        rw [k4]
        have : ei.bytes * q ≤ 1000000 * 1000 := Nat.mul_le_mul h2 h1
        have h3 : ((ei.bytes : Int) * (q : Int)) = ((ei.bytes * q : Nat) : Int) := by simp
        rw [h3]; omega)
      refine ⟨.chan (some w.heap.size), w.alloc (.chan q #[] false 0 0 false), ⟨w.heap.size, 0, 0, 0, 0, default⟩, ?_, rfl, ⟨_, rfl⟩, rfl, rfl, rfl, fun b hb => ⟨.chan (Mu.set_eq _ _ _), ⟨[], 0, 0, heap_new w _, .nil, R.below.size⟩⟩⟩
      have hrun : (Instr.makeChan t (.int k (Int.ofNat q))).run P w = _ := hrun
      simp only [execOp, ho, hr, Sem.run_bind, hrun, Result.andThen_ok, Sem.run_pure]
  · cases em
end Go.EvM
namespace Go.EvM
set_option linter.unusedSectionVars false
variable [GLs]
open Go.RowKit
set_option linter.unusedVariables false
variable {P : Program} {cx : Cx} {o : Oper}
theorem arrMap (ρ : Env) (xs : Array Operand) : xs.map ρ = (xs.toList.map ρ).toArray := by
  apply Array.ext'; simp
theorem cls_build (C : CxOk P cx) {t : TypeId} {ps : Array (Nat × Operand)} (ho : o.op = .build t ps) : ClsOk P o (cBuild cx t ps) := by
  unfold cBuild
  split
  · rename_i i hi
    split
    · rename_i fs hd
      split
      · rename_i pl hpl; exact ok_buildS C hi hd hpl ho
      · trivial
    · rename_i n e hd
      split
      · rename_i ei he; exact ok_buildA C hi hd he ho
      · trivial
    · trivial
  · trivial
theorem cls_buildSlice (C : CxOk P cx) {t : TypeId} {n : Nat} {ps : Array (Nat × Operand)} (ho : o.op = .buildSlice t n ps) : ClsOk P o (cBuildSlice cx t n ps) := by
  unfold cBuildSlice
  split
  · rename_i i hi
    split
    · rename_i e hd
      split
      · rename_i ei he
        cases hb : (Nat.ble (Nat.mul n ei.size) 16777216 && Nat.blt 0 ei.size) with
        | false => exact trivial
        | true => exact ok_buildSlice C hi hd he hb ho
      · trivial
    · trivial
  · trivial
theorem cls_load (C : CxOk P cx) {t : TypeId} {a : Operand} (ho : o.op = .load t a) : ClsOk P o (cLoad cx t a) := by
  unfold cLoad
  split
  · rename_i i hi
    split
    · rename_i hd; exact ok_loadA C hi hd ho
    · rename_i hd; exact ok_load1 C hi hd ho
  · trivial
theorem cls_store (C : CxOk P cx) {t : TypeId} {a x : Operand} (ho : o.op = .store t a x) : ClsOk P o (cStore cx t a x) := by
  unfold cStore
  split
  · rename_i i hi; exact ok_store C hi ho
  · trivial
theorem cls_conv (C : CxOk P cx) {s d : TypeId} {x : Operand} (ho : o.op = .convert s d x) : ClsOk P o (cConv cx s d x) := by
  unfold cConv
  split
  · rename_i si di hs hd
    split
    · rename_i k' k h1 h2; exact ok_convIS C.facts C hs hd h1 h2 ho
    · rename_i t h1 h2
      split
      · rename_i i hi
        split
        · rename_i hz; exact ok_toUns C hs hd h1 h2 hi hz ho
        · trivial
      · trivial
    · rename_i u h1 h2
      split
      · rename_i i hi
        split
        · rename_i hz; exact ok_ofUns C hs hd h1 h2 hi hz ho
        · trivial
      · trivial
    · rename_i h1 h2; exact ok_convS C hs hd h1 h2 ho
    · rename_i e h1 h2
      split
      · rename_i ei he
        split
        · rename_i h3; exact ok_convBS C hs hd h1 h2 he h3 ho
        · trivial
      · trivial
    · rename_i e h1 h2
      split
      · rename_i ei he
        split
        · rename_i h3; exact ok_convSB C hs hd h1 h2 he h3 ho
        · trivial
      · trivial
    · trivial
  · trivial
theorem cls_slice (C : CxOk P cx) {t : TypeId} {x : Operand} {lo hi mx : Option Operand} (ho : o.op = .slice t x lo hi mx) : ClsOk P o (cSlice cx t x lo hi mx) := by
  unfold cSlice
  split
  · rename_i i hi'
    split
    · rename_i hd
      split
      · exact ok_sliceStr C hi' hd ho
      · trivial
    · rename_i e hd
      split
      · rename_i ei he
        split
        · trivial
        · rename_i hn
          refine ok_sliceSl C hi' hd he ?_ ho
          intro hm
          cases hi with
          | some _ => rfl
          | none => cases mx with
            | none => simp at hm
            | some m => exact (hn m rfl rfl).elim
      · trivial
    · rename_i n e hd
      split
      · rename_i ei he
        split
        · trivial
        · rename_i hn
          refine ok_sliceArr C hi' hd he ?_ ho
          intro hm
          cases hi with
          | some _ => rfl
          | none => cases mx with
            | none => simp at hm
            | some m => exact (hn m rfl rfl).elim
      · trivial
    · trivial
  · trivial
theorem cls_fieldAddr (C : CxOk P cx) {s : TypeId} {x : Operand} {f : Nat} (ho : o.op = .fieldAddr s x f) : ClsOk P o (cFieldAddr cx s x f) := by
  unfold cFieldAddr
  split
  · rename_i i hi
    split
    · rename_i fs hd
      split
      · rename_i fd hf
        split
        · rename_i fi hfi
          cases hz : Nat.beq fi.size 0 with
          | true => exact trivial
          | false => exact ok_fieldAddr C hi hd hf hfi hz ho
        · trivial
      · trivial
    · trivial
  · trivial
theorem cls_field (C : CxOk P cx) {s : TypeId} {x : Operand} {f : Nat} (ho : o.op = .field s x f) : ClsOk P o (cField cx s x f) := by
  unfold cField
  split
  · rename_i i hi
    split
    · rename_i fs hd
      split
      · rename_i fd hf
        split
        · rename_i fi hfi; exact ok_field C hi hd hf hfi ho
        · trivial
      · trivial
    · trivial
  · trivial
theorem cls_indexAddr (C : CxOk P cx) {t : TypeId} {x ix : Operand} (ho : o.op = .indexAddr t x ix) : ClsOk P o (cIndexAddr cx t x ix) := by
  unfold cIndexAddr
  split
  · rename_i i hi
    split
    · rename_i e hd
      split
      · rename_i ei he; exact ok_indexAddrS C hi hd he ho
      · trivial
    · rename_i n e hd
      split
      · rename_i ei he; exact ok_indexAddrA C hi hd he ho
      · trivial
    · trivial
  · trivial
theorem cls_index (C : CxOk P cx) {t : TypeId} {x ix : Operand} (ho : o.op = .index t x ix) : ClsOk P o (cIndex cx t x ix) := by
  unfold cIndex
  split
  · rename_i i hi
    split
    · rename_i hd; exact ok_indexS C hi hd ho
    · rename_i n e hd
      split
      · rename_i ei he; exact ok_indexA C hi hd he ho
      · trivial
    · trivial
  · trivial
theorem cls_makeSlice (C : CxOk P cx) {t : TypeId} {l c : Operand} (ho : o.op = .makeSlice t l c) : ClsOk P o (cMakeSlice cx t l c) := by
  unfold cMakeSlice
  split
  · rename_i i hi
    split
    · rename_i e hd
      split
      · rename_i ei he; exact ok_makeSlice C hi hd he ho
      · trivial
    · trivial
  · trivial
theorem cls_eq (C : CxOk P cx) {ne : Bool} {t u : TypeId} {x y : Operand} (ho : o.op = .binOp (eqOp ne) t x y u) : ClsOk P o (cEq cx ne t x y) := by
  unfold cEq
  split
  · rename_i ls hls; exact ok_eqAgg C hls ho
  · split
    · rename_i i hi
      split
      · rename_i hp; exact ok_eqPtr C hi hp ho
      · exact ok_eqS C.facts C.tabs C hi ho
    · trivial
theorem cls_bin (C : CxOk P cx) {op : BinOp} {t u : TypeId} {x y : Operand} (ho : o.op = .binOp op t x y u) : ClsOk P o (cBin cx op t x y) := by
  unfold cBin
  split
  · exact cls_eq (ne := false) C ho
  · exact cls_eq (ne := true) C ho
  · exact ok_binS C.facts C.tabs ho
theorem cls_builtin (C : CxOk P cx) {b : Builtin} {args : Array Operand} {ts : Array TypeId} (ho : o.op = .call { callee := .builtin b, args, argTypes := ts }) : ClsOk P o (cBuiltin cx b args.toList ts.toList) := by
  obtain ⟨args⟩ := args
  obtain ⟨ts⟩ := ts
  unfold cBuiltin
  split
  · split
    · rename_i x t h1 h2
      simp at h1 h2; subst h1; subst h2
      unfold lenCls
      split
      · rename_i i hi
        split
        · rename_i hd; exact ok_lenS C hi hd ho (ty := 0)
        · rename_i e hd; exact ok_lenSl C hi hd ho
        · rename_i n e hd; exact ok_lenA C hi hd ho
        · rename_i kt et hd; exact ok_lenM C hi hd ho
        · rename_i dr et hd; exact ok_lenC C hi hd ho
        · trivial
      · trivial
    · trivial
  · split
    · rename_i x t h1 h2
      simp at h1 h2; subst h1; subst h2
      unfold capCls
      split
      · rename_i i hi
        split
        · rename_i e hd; exact ok_capSl C hi hd ho
        · trivial
      · trivial
    · trivial
  · split
    · rename_i s x t u h1 h2
      simp at h1 h2; subst h1; subst h2
      unfold cAppend
      split
      · rename_i i hi
        split
        · rename_i e hd
          split
          · rename_i ei he
            cases hb : isIntT cx u with
            | true => exact trivial
            | false => exact ok_append C hi hd he hb ho
          · trivial
        · trivial
      · trivial
    · trivial
  · split
    · rename_i d s t u h1 h2
      simp at h1 h2; subst h1; subst h2
      unfold cCopy
      split
      · rename_i i hi
        split
        · rename_i e hd
          split
          · rename_i ei he; exact ok_copy C hi hd he ho
          · trivial
        · trivial
      · trivial
    · trivial
  · split
    · rename_i x t h1 h2
      simp at h1 h2; subst h1; subst h2
      exact cls_clear C ho
    · trivial
  · split
    · rename_i x h1
      simp at h1; subst h1
      exact ok_sliceData ho
    · trivial
  · split
    · rename_i p n t it h1 h2
      simp at h1 h2; subst h1; subst h2
      unfold cUStr
      split
      · rename_i i hi
        split
        · rename_i e hd
          split
          · rename_i h1; exact ok_uStr C hi hd h1 ho
          · trivial
        · trivial
      · trivial
    · trivial
  · split
    · rename_i x y h1
      simp at h1; subst h1
      exact ok_minS C.facts ho
    · trivial
  · split
    · rename_i x y h1
      simp at h1; subst h1
      exact ok_maxS C.facts ho
    · trivial
  · trivial
theorem cls_call (C : CxOk P cx) {c : Call} (ho : o.op = .call c) : ClsOk P o (cCall cx c) := by
  obtain ⟨callee, args, ts⟩ := c
  unfold cCall
  split
  · rename_i f hf
    simp only at hf; subst hf
    refine ⟨⟨by rw [ho]; simp [Op.operands, Call.operands], fun x hx => by rw [ho]; simp [Op.operands, Call.operands]; right; simpa using hx⟩, ?_⟩
    intro ρ g a c hρ
    simp only [execOp, ho, resolve, hρ, Deferred.ofValue, pure_bind, invoke]
    rw [arrMap]
  · rename_i b hb
    simp only at hb; subst hb
    exact cls_builtin C ho
  · trivial
theorem cls_defer {c : Call} {f : Operand} (ho : o.op = .defer c) (hf : c.callee = .value f) : DeferOk o f c.args.toList := by
  obtain ⟨callee, args, ts⟩ := c
  simp only at hf; subst hf
  refine ⟨⟨by rw [ho]; simp [Op.operands, Call.operands], fun x hx => by rw [ho]; simp [Op.operands, Call.operands]; right; simpa using hx⟩, ?_⟩
  intro ρ g a c hρ
  simp only [execOp, ho, resolve, hρ, Deferred.ofValue, pure_bind]
  rw [arrMap]
theorem cOp_ok (C : CxOk P cx) : ClsOk P o (cOp cx o.op) := by
  unfold cOp
  split
  · rename_i x ho; exact ok_move ho
  · rename_i x ho; exact ok_assign ho
  · rename_i c a b ho; exact ok_pick ho
  · rename_i e ho
    unfold cAlloc
    split
    · rename_i i hi; exact ok_alloc C hi ho
    · trivial
  · rename_i e x ho; exact ok_box ho
  · rename_i t ps ho; exact cls_build C ho
  · rename_i t n ps ho; exact cls_buildSlice C ho
  · rename_i t a ho; exact cls_load C ho
  · rename_i t a x ho; exact cls_store C ho
  · rename_i x ho; exact ok_nil ho
  · rename_i op t x y u ho; exact cls_bin C ho
  · rename_i op t x ho; exact ok_unS C.facts ho
  · rename_i s d x ho; exact cls_conv C ho
  · rename_i fn a b ho
    split
    · exact ok_func ho
    · trivial
  · rename_i t l c ho; exact cls_makeSlice C ho
  · rename_i t x lo hi mx ho; exact cls_slice C ho
  · rename_i s x f ho; exact cls_fieldAddr C ho
  · rename_i s x f ho; exact cls_field C ho
  · rename_i t x i ho; exact cls_indexAddr C ho
  · rename_i t x i ho; exact cls_index C ho
  · rename_i t i ho; exact ok_extr ho
  · rename_i t x k ok ho
    unfold cLookup
    split
    · rename_i d ei hm; exact ok_lookup C hm ho
    · trivial
  · rename_i t m k x ho
    unfold cMapUpdate
    split
    · rename_i d ei hm; exact ok_mapUpdate C hm ho
    · trivial
  · rename_i t r ho
    unfold cMakeMap
    split
    · exact ok_makeMap ho
    · trivial
  · rename_i t n ho
    unfold cMakeChan
    split
    · rename_i i hi
      split
      · rename_i dr e hd
        split
        · rename_i ei he; exact ok_makeChan C hi hd he ho
        · trivial
      · trivial
    · trivial
  · rename_i t x ho; exact cls_mkIface C ho
  · rename_i x u t ok ho; exact cls_assert C ho
  · rename_i c ho; exact cls_call C ho
  · rename_i c ho
    split
    · rename_i f hf; exact cls_defer ho hf
    · trivial
  · trivial
theorem cls_ok (C : CxOk P cx) (o : Oper) : ClsOk P o (cls cx o) := by
  unfold cls
  cases h : o.op.operands.toList.all okOpnd with
  | false => exact trivial
  | true => exact cOp_ok C
theorem cls_opnd {o : Oper} (h : cls cx o ≠ .bad) : ∀ x ∈ o.op.operands.toList, okOpnd x = true := by
  unfold cls at h
  cases hb : o.op.operands.toList.all okOpnd with
  | false => rw [hb] at h; exact (h rfl).elim
  | true => exact List.all_eq_true.1 hb
end Go.EvM
