/- TSum: Put and Take, told. -/
import Derived.Test.YtmmaicjkkcljhaaEvTTake
import Derived.Test.YtmmaicjkkcljhaaEvFast
import Derived.Test.YtmmaicjkkcljhaaEvExtD
namespace Go.EvM.TTray
open Go.RowKit Go.Proofs
set_option linter.unusedVariables false

instance gls : GLs := ⟨fun _ => none, fun _ _ h => by cases h⟩
theorem gl_ok (w : World) : GlOk w := fun _ _ h => by cases h

theorem Rel.later {W : World} {μ : Mu} {h : Hp} {w w' : World} (R : Rel W μ h w) (hb : Below w.heap.size w w') : Rel W μ h w' :=
  ⟨R.gl, R.dom, fun b i o h1 h2 => (R.ob b i o h1 h2).move (Le.refl _) (hb.block _ (R.ob b i o h1 h2).old), R.inj, R.below.trans (hb.mono R.below.size)⟩

theorem Rel.rechan {W : World} {μ : Mu} {h : Hp} {w w' : World} (R : Rel W μ h w) {b : Nat} {i : BI} {cap : Nat} {buf buf' : List Value} {vs' : List Value} {s r : Nat} (hb : μ b = some i) (ho : h.b.get b = some (.chan cap buf)) (hU : Upd i.rb (.chan cap ⟨vs'⟩ false s r false) w w') (hv : VRs μ buf' vs') :
    Rel W μ ⟨h.n, h.b.put b (.chan cap buf')⟩ w' := by
  obtain ⟨vs, s0, r0, k1, k2, k3⟩ := R.ob b i _ hb ho
  have old : ∀ {x o}, (h.b.put b (.chan cap buf')).get x = some o → (x = b ∧ o = .chan cap buf') ∨ (x ≠ b ∧ h.b.get x = some o) := fun {x o} hx => by
    rw [Tr.get_put] at hx
    split at hx
    · rename_i e; cases hx; exact .inl ⟨e, rfl⟩
    · rename_i e; exact .inr ⟨e, hx⟩
  refine ⟨R.gl, R.dom, fun c j o hc hoc => ?_, fun c d j k o p hc hd hoc hpd wo wp hjk => ?_,
    ⟨hU.os.trans R.below.os, hU.tape.trans R.below.tape, hU.output.trans R.below.output, Nat.le_trans R.below.size hU.size, fun k hk => (hU.same k (by have := R.below.size; omega) (by omega)).trans (R.below.block k hk)⟩⟩
  · rcases old hoc with ⟨rfl, rfl⟩ | ⟨hne, hoc⟩
    · rw [hb] at hc; cases hc
      exact ⟨vs', s, r, hU.new, hv, k3⟩
    · have ro := R.ob c j o hc hoc
      refine ro.move (Le.refl _) (hU.same _ ro.old fun hrb => ?_)
      cases o with
      | cells c2 n2 z2 ti2 ro2 =>
        obtain ⟨cs, e, fz, h1, _⟩ := ro
        rw [hrb, k1] at h1; cases h1
      | map es2 => exact hne (R.inj c b j i _ _ hc hb hoc ho trivial trivial hrb)
      | mark => exact hne (R.inj c b j i _ _ hc hb hoc ho trivial trivial hrb)
      | lock _ _ => exact hne (R.inj c b j i _ _ hc hb hoc ho trivial trivial hrb)
      | chan _ _ => exact hne (R.inj c b j i _ _ hc hb hoc ho trivial trivial hrb)
  · have key : ∀ {x o}, (h.b.put b (.chan cap buf')).get x = some o → o.wr → ∃ p, h.b.get x = some p ∧ p.wr := fun {x o} hx hwr => by
      rcases old hx with ⟨rfl, rfl⟩ | ⟨hne, hx⟩
      · exact ⟨_, ho, trivial⟩
      · exact ⟨o, hx, hwr⟩
    obtain ⟨p1, l1, m1⟩ := key hoc wo
    obtain ⟨p2, l2, m2⟩ := key hpd wp
    exact R.inj c d j k p1 p2 hc hd l1 l2 m1 m2 hjk

/-- What a tray has: its two rows, whether it is shut. -/
structure Ty where
  u : Nat
  a : List Value
  o : Nat
  b : List Value
  shut : Bool
noncomputable def tyOf (h : Hp) (x : Value) : Option Ty :=
  match x with
  | .pointer (some ⟨b, 0, none⟩) => (match h.b.get b with
    | some (.cells c _ _ true _) => (match c.get 0, c.get 1, c.get 2 with
      | some (.chan (some (Nat.succ u))), some (.chan (some (Nat.succ o))), some (.bool s) => (match h.b.get u, h.b.get o with
        | some (.chan 8 l), some (.chan 8 m) => some ⟨u, l, o, m, s⟩
        | _, _ => none)
      | _, _, _ => none)
    | _ => none)
  | _ => none
noncomputable def putE (args : List Value) (h : Hp) : OR :=
  match args with
  | [t, .agg ⟨[.string s1, .string s2, .bool u]⟩] => (match tyOf h t with
    | some y => (match y.shut with
      | true => .ok (.int .i64 (.ofNat 4)) h
      | false => (match u with
        | true => (match Nat.blt y.a.length 8 with
          | true => .ok (.int .i64 (.ofNat 0)) ⟨h.n, h.b.put y.u (.chan 8 (y.a ++ [.agg ⟨[.string s1, .string s2, .bool true]⟩]))⟩
          | false => .ok (.int .i64 (.ofNat 6)) h)
        | false => (match Nat.blt y.b.length 8 with
          | true => .ok (.int .i64 (.ofNat 0)) ⟨h.n, h.b.put y.o (.chan 8 (y.b ++ [.agg ⟨[.string s1, .string s2, .bool false]⟩]))⟩
          | false => .ok (.int .i64 (.ofNat 6)) h)))
    | none => .no)
  | _ => .no
noncomputable def takeE (args : List Value) (h : Hp) : OR :=
  match args with
  | [t] => (match tyOf h t with
    | some y => (match y.a with
      | .agg ⟨[.string s1, .string s2, .bool b0]⟩ :: l => .ok (.tuple ⟨[.agg ⟨[.string s1, .string s2, .bool b0]⟩, .bool true]⟩) ⟨h.n, h.b.put y.u (.chan 8 l)⟩
      | _ :: _ => .no
      | [] => (match y.b with
        | .agg ⟨[.string s1, .string s2, .bool b0]⟩ :: l => .ok (.tuple ⟨[.agg ⟨[.string s1, .string s2, .bool b0]⟩, .bool true]⟩) ⟨h.n, h.b.put y.o (.chan 8 l)⟩
        | _ :: _ => .no
        | [] => .ok (.tuple ⟨[.agg ⟨[.string ⟨⟨[]⟩⟩, .string ⟨⟨[]⟩⟩, .bool false]⟩, .bool false]⟩) h))
    | none => .no)
  | _ => .no

/-- The model's tray. -/
structure TyR (W : World) (μ : Mu) (w : World) (h : Hp) (y : Ty) (p : Nat) (iu io : BI) : Prop where
  lt : p < w.heap.size
  g0 : w.cell? ⟨p, 0, none⟩ = some (.chan (some iu.rb))
  g1 : w.cell? ⟨p, 1, none⟩ = some (.chan (some io.rb))
  g2 : w.cell? ⟨p, 2, none⟩ = some (.bool y.shut)
  hu : μ y.u = some iu
  ho : μ y.o = some io
  cu : h.b.get y.u = some (.chan 8 y.a)
  co : h.b.get y.o = some (.chan 8 y.b)

theorem ty_ok {W : World} {μ : Mu} {h : Hp} {w : World} (R : Rel W μ h w) {x x' : Value} (hx : VR μ x x') {y : Ty} (e : tyOf h x = some y) : ∃ p iu io, x' = .pointer (some ⟨p, 0, none⟩) ∧ TyR W μ w h y p iu io := by
  unfold tyOf at e
  split at e
  · rename_i b
    split at e
    · rename_i c n z ro hb
      split at e
      · rename_i u o s c0 c1 c2
        split at e
        · rename_i l m hu ho
          cases e
          cases hx with
          | ptr _ hi =>
            rename_i i
            obtain ⟨cs, et, fz, r1, r2, r3, r4, r5, r6, r7, r8, r9⟩ := R.ob b i _ hi hb
            have hd : i.d = 0 := (r4 rfl).2
            have at_ : ∀ j v, c.get j = some v → ∃ v', w.cell? ⟨i.rb, j, none⟩ = some v' ∧ VR μ v v' := fun j v hj => by
              have hlt : j < n := by
                refine Nat.lt_of_not_le fun hle => ?_
                rw [r6 j hle] at hj; cases hj
              obtain ⟨a, v', q1, q2, q3, q4⟩ := r7 j hlt
              rw [hj] at q1; cases q1
              rw [hd, Nat.zero_add] at q2
              exact ⟨v', by simp [World.cell?, r1, q2], q3⟩
            obtain ⟨v0, p0, q0⟩ := at_ 0 _ c0
            obtain ⟨v1, p1, q1⟩ := at_ 1 _ c1
            obtain ⟨v2, p2, q2⟩ := at_ 2 _ c2
            cases q0 with
            | chan k0 =>
              cases q1 with
              | chan k1 =>
                cases q2
                refine ⟨i.rb, _, _, ?_, (Array.getElem?_eq_some_iff.1 r1).1, p0, p1, p2, k0, k1, hu, ho⟩
                rw [hd]
        · cases e
      · cases e
    · cases e
  · cases e

theorem f7 : Try.prog.funcs[7]? = some Try.f7 := by kernel_rfl
theorem b7 : Try.f7.body = some (Try.f7.body.getD .skip) := by kernel_rfl
theorem n7 : (Try.f7.name == "runtime.NumGoroutine") = false := by kernel_rfl
theorem f10 : Try.prog.funcs[10]? = some Try.f10 := by kernel_rfl
theorem b10 : Try.f10.body = some (Try.f10.body.getD .skip) := by kernel_rfl
theorem n10 : (Try.f10.name == "runtime.NumGoroutine") = false := by kernel_rfl

theorem upd_put {c s r : Nat} {buf : Array Value} {w : World} {o1 : Obj} {x : Value} (hc : c < w.heap.size) : Upd c (.chan 8 (buf.push x) false (s + 1) r false) w ((w.alloc o1).setChan c 8 (buf.push x) false (s + 1) r false) := by
  refine ⟨rfl, rfl, rfl, by rw [Go.Conc.size_setChan]; simp, fun k hk hne => ?_, Go.Conc.heap_setChan _ _ _ _ _ _ _ _ (by simp; omega)⟩
  show (Array.setIfInBounds _ _ _)[_]? = _
  rw [Array.getElem?_setIfInBounds_ne (fun e => hne e.symm)]
  exact Below.heap_alloc _ _ _ hk

theorem blt_not {a b : Nat} (h : Nat.blt a b = false) : b ≤ a := Nat.le_of_not_lt fun k => by rw [show Nat.blt a b = true from Nat.ble_eq_true_of_le k] at h; cases h
theorem letter {μ : Mu} {s1 s2 : ByteArray} {u : Bool} {v : Value} (h : VR μ (.agg ⟨[.string s1, .string s2, .bool u]⟩) v) : v = .agg #[.string s1, .string s2, .bool u] := by
  cases h with
  | agg h1 h2 =>
    cases h1 with
    | cons a1 t1 => cases t1 with
      | cons a2 t2 => cases t2 with
        | cons a3 t3 => cases t3; cases a1; cases a2; cases a3; rfl
theorem letterR (μ : Mu) (s1 s2 : ByteArray) (u : Bool) : VR μ (.agg ⟨[.string s1, .string s2, .bool u]⟩) (.agg #[.string s1, .string s2, .bool u]) :=
  .agg (.cons (.string _) (.cons (.string _) (.cons (.bool _) .nil))) (by intro x hx; simp at hx; rcases hx with rfl | rfl | rfl <;> rfl)

theorem put_ok : SumOk Try.prog 7 putE := by
  intro args h v h' e W μ w args' hv R
  rw [MuLone.run_callFunc_enter f7 n7 b7]
  unfold putE at e
  split at e
  · rename_i t s1 s2 u
    cases hv with
    | cons ht hv2 =>
      cases hv2 with
      | cons hl hv3 =>
        cases hv3
        have hl' := letter hl
        subst hl'
        split at e
        · rename_i y hy
          obtain ⟨p, iu, io, hp, T⟩ := ty_ok R ht hy
          subst hp
          have fin : ∀ {k : Int} {o : Obj}, v = .int .i64 k → h' = h → ∀ e' w', (e' = Ending.returned (.int .i64 k) ∧ w' = w.alloc o) → ∃ v', e' = .returned v' ∧ After W μ h v h' v' w' := fun hv hh e' w' ⟨h1, h2⟩ => by
            subst hv; subst hh; subst h2
            exact ⟨_, h1, μ, .int _ _, Rel.later R ((Below.refl _ w).alloc (Nat.le_refl _) _), Ext.refl _ _, Nat.le_refl _⟩
          obtain ⟨vu, su, ru, a1, a2, a3⟩ := R.ob _ _ _ T.hu T.cu
          obtain ⟨vo, so, ro, d1, d2, d3⟩ := R.ob _ _ _ T.ho T.co
          have g2 := T.g2
          split at e
          · rename_i hs
            cases e
            rw [hs] at g2
            exact (put_closed p s1 s2 u w T.lt g2).mono (fin rfl rfl)
          · rename_i hs
            rw [hs] at g2
            split at e
            · split at e
              · rename_i hb
                cases e
                refine (put_u_room p iu.rb io.rb s1 s2 w ⟨vu⟩ su ru T.lt T.g0 T.g1 g2 a1 (by have := blt_lt hb; rw [← a2.length] at this; exact this)).mono ?_
                rintro e' w' ⟨rfl, rfl⟩
                exact ⟨_, rfl, μ, .int _ _, Rel.rechan R T.hu T.cu (by have := upd_put (buf := ⟨vu⟩) (s := su) (r := ru) (x := .agg #[.string s1, .string s2, .bool true]) (o1 := .cells #[.string s1, .string s2, .bool true] 28) (Array.getElem?_eq_some_iff.1 a1).1; rw [show (⟨vu⟩ : Array Value).push (.agg #[.string s1, .string s2, .bool true]) = ⟨vu ++ [.agg #[.string s1, .string s2, .bool true]]⟩ by simp] at this ⊢; exact this) (a2.append (.cons (letterR μ s1 s2 true) .nil)), Ext.refl _ _, Nat.le_refl _⟩
              · rename_i hb
                cases e
                exact (put_u_full p iu.rb io.rb s1 s2 w ⟨vu⟩ su ru T.lt T.g0 T.g1 g2 a1 (by have := blt_not hb; rw [← a2.length] at this; exact this)).mono (fin rfl rfl)
            · split at e
              · rename_i hb
                cases e
                refine (put_o_room p iu.rb io.rb s1 s2 w ⟨vo⟩ so ro T.lt T.g0 T.g1 g2 d1 (by have := blt_lt hb; rw [← d2.length] at this; exact this)).mono ?_
                rintro e' w' ⟨rfl, rfl⟩
                exact ⟨_, rfl, μ, .int _ _, Rel.rechan R T.ho T.co (by have := upd_put (buf := ⟨vo⟩) (s := so) (r := ro) (x := .agg #[.string s1, .string s2, .bool false]) (o1 := .cells #[.string s1, .string s2, .bool false] 28) (Array.getElem?_eq_some_iff.1 d1).1; rw [show (⟨vo⟩ : Array Value).push (.agg #[.string s1, .string s2, .bool false]) = ⟨vo ++ [.agg #[.string s1, .string s2, .bool false]]⟩ by simp] at this ⊢; exact this) (d2.append (.cons (letterR μ s1 s2 false) .nil)), Ext.refl _ _, Nat.le_refl _⟩
              · rename_i hb
                cases e
                exact (put_o_full p iu.rb io.rb s1 s2 w ⟨vo⟩ so ro T.lt T.g0 T.g1 g2 d1 (by have := blt_not hb; rw [← d2.length] at this; exact this)).mono (fin rfl rfl)
        · cases e
  · cases e

theorem take_ok : SumOk Try.prog 10 takeE := by
  intro args h v h' e W μ w args' hv R
  rw [MuLone.run_callFunc_enter f10 n10 b10]
  unfold takeE at e
  split at e
  · rename_i t
    cases hv with
    | cons ht hv2 =>
      cases hv2
      split at e
      · rename_i y hy
        obtain ⟨p, iu, io, hp, T⟩ := ty_ok R ht hy
        subst hp
        obtain ⟨vu, su, ru, a1, a2, a3⟩ := R.ob _ _ _ T.hu T.cu
        obtain ⟨vo, so, ro, d1, d2, d3⟩ := R.ob _ _ _ T.ho T.co
        have pair : ∀ {s1 s2 : ByteArray} {b0 b1 : Bool}, VR μ (.tuple ⟨[.agg ⟨[.string s1, .string s2, .bool b0]⟩, .bool b1]⟩) (.tuple #[.agg #[.string s1, .string s2, .bool b0], .bool b1]) := .tuple (.cons (letterR μ _ _ _) (.cons (.bool _) .nil))
        split at e
        · rename_i s1 s2 b0 l ha
          cases e
          rw [ha] at a2
          cases a2 with
          | cons x1 x2 =>
            have x1 := letter x1
            subst x1
            rename_i vs
            refine (take_u p iu.rb io.rb s1 s2 b0 w ⟨_⟩ su ru 0 0 T.lt T.g0 T.g1 a1 rfl (by simp)).mono ?_
            rintro e' w' ⟨rfl, hU⟩
            rw [show (Array.mk (Value.agg #[.string s1, .string s2, .bool b0] :: vs)).extract 1 (Array.mk (Value.agg #[.string s1, .string s2, .bool b0] :: vs)).size = ⟨vs⟩ by simp] at hU
            exact ⟨_, rfl, μ, pair, Rel.rechan R T.hu T.cu hU x2, Ext.refl _ _, Nat.le_refl _⟩
        · cases e
        · rename_i ha
          rw [ha] at a2
          cases a2
          split at e
          · rename_i s1 s2 b0 l hb
            cases e
            rw [hb] at d2
            cases d2 with
            | cons x1 x2 =>
              have x1 := letter x1
              subst x1
              rename_i vs
              refine (take_o p iu.rb io.rb s1 s2 b0 w ⟨_⟩ so ro su ru T.lt T.g0 T.g1 a1 d1 rfl (by simp)).mono ?_
              rintro e' w' ⟨rfl, hU⟩
              rw [show (Array.mk (Value.agg #[.string s1, .string s2, .bool b0] :: vs)).extract 1 (Array.mk (Value.agg #[.string s1, .string s2, .bool b0] :: vs)).size = ⟨vs⟩ by simp] at hU
              exact ⟨_, rfl, μ, pair, Rel.rechan R T.ho T.co hU x2, Ext.refl _ _, Nat.le_refl _⟩
          · cases e
          · rename_i hb
            cases e
            rw [hb] at d2
            cases d2
            refine (take_n p iu.rb io.rb ByteArray.empty ByteArray.empty false w #[] so ro su ru T.lt T.g0 T.g1 a1 d1).mono ?_
            rintro e' w' ⟨rfl, hB⟩
            exact ⟨_, rfl, μ, pair, Rel.later R hB, Ext.refl _ _, Nat.le_refl _⟩
      · cases e
  · cases e
end Go.EvM.TTray
