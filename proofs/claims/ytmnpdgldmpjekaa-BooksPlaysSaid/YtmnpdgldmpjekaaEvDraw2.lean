/- Draw2: the interpreter's way through a drawn region, operation by operation. -/
import Derived.Test.YtmnpdgldmpjekaaEvDraw1
namespace Go.EvM
open Go.RowKit
set_option linter.unusedVariables false
variable {P : Program} {cx : Cx}

structure Rc where
  i : Nat
  o : Oper
  s : St
  s' : St
  lo : Nat
  hi : Nat

def Chain : St → List Rc → St → Prop
  | s, [], sf => s = sf
  | s, r :: l, sf => r.s = s ∧ Chain r.s' l sf

theorem Chain.append : ∀ {l m : List Rc} {a b c : St}, Chain a l b → Chain b m c → Chain a (l ++ m) c
  | [], _, _, _, _, h, k => by cases h; exact k
  | _ :: _, _, _, _, _, ⟨h1, h2⟩, k => ⟨h1, Chain.append h2 k⟩

def Grow (h h' : Hp) : Prop := h.n ≤ h'.n ∧ ∀ b, b < h.n → h'.b.get b = h.b.get b
theorem Grow.refl (h : Hp) : Grow h h := ⟨Nat.le_refl _, fun _ _ => rfl⟩
theorem Grow.trans {a b c : Hp} (h : Grow a b) (k : Grow b c) : Grow a c := ⟨Nat.le_trans h.1 k.1, fun x hx => (k.2 x (Nat.lt_of_lt_of_le hx h.1)).trans (h.2 x hx)⟩

/-- What an operation that does not act was found to give; 'L' what of it is asked of the heap at a look, 'M' at a make. -/
def QuietW (cx : Cx) (ops : List Oper) (L : (Env → Hp → Option Value) → Tr Value → Value → Nat → Prop) (M : Nat → Ob → Nat → Prop) (r : Rc) : Prop :=
  (wantT r.s.T ops r.o.guard = false ∧ r.s.setD r.o.dst undef r.s.H = .ok r.s') ∨
  (wantT r.s.T ops r.o.guard = true ∧
    ((∃ f v, cls cx r.o = .pure f ∧ f (evO r.s.T) = some v ∧ r.s.setD r.o.dst v r.s.H = .ok r.s') ∨
     (∃ f v, cls cx r.o = .look f ∧ L f r.s.T v r.hi ∧ r.s.setD r.o.dst v r.s.H = .ok r.s') ∨
     (∃ f m, cls cx r.o = .make f ∧ f (evO r.s.T) = some m ∧ M r.s.H.n m.ob r.hi ∧ r.s.setD r.o.dst (m.val r.s.H.n) ⟨r.s.H.n + 1, r.s.H.b.put r.s.H.n m.ob⟩ = .ok r.s')))
theorem QuietW.imp {ops : List Oper} {L L' : (Env → Hp → Option Value) → Tr Value → Value → Nat → Prop} {M M' : Nat → Ob → Nat → Prop} {r : Rc}
    (hL : ∀ f T v, L f T v r.hi → L' f T v r.hi) (hM : ∀ b o, M b o r.hi → M' b o r.hi) (h : QuietW cx ops L M r) : QuietW cx ops L' M' r := by
  rcases h with h | ⟨h0, ⟨f, v, h1, h2, h3⟩ | ⟨f, v, h1, h2, h3⟩ | ⟨f, m, h1, h2, h3, h4⟩⟩
  · exact .inl h
  · exact .inr ⟨h0, .inl ⟨f, v, h1, h2, h3⟩⟩
  · exact .inr ⟨h0, .inr (.inl ⟨f, v, h1, hL _ _ _ h2, h3⟩)⟩
  · exact .inr ⟨h0, .inr (.inr ⟨f, m, h1, h2, hM _ _ h3, h4⟩)⟩

theorem drawIt_spec {ops : List Oper} {it : It} {s s' : St} {fl fl' : List Fl} (e : drawIt cx ops it s fl = some (s', fl')) :
    QuietW cx ops (fun f T v hi => Fl.look f T v hi ∈ fl') (fun b o hi => Fl.make b o hi ∈ fl') ⟨it.i, it.o, s, s', it.lo, it.hi⟩ ∧ (∀ f ∈ fl, f ∈ fl') ∧ Grow s.H s'.H ∧ s'.D = s.D := by
  unfold drawIt at e
  cases hw : wantT s.T ops it.o.guard with
  | false =>
    rw [hw] at e
    simp only [cond_false] at e
    split at e
    · rename_i s1 h1
      cases e
      obtain ⟨g1, _, g3, _⟩ := setD_facts h1
      exact ⟨.inl ⟨hw, h1⟩, fun _ h => h, by rw [g1]; exact Grow.refl _, g3⟩
    · cases e
  | true =>
    rw [hw] at e
    simp only [cond_true] at e
    split at e
    · rename_i f hf
      split at e
      · rename_i v hv
        split at e
        · rename_i s1 h1
          cases e
          obtain ⟨g1, _, g3, _⟩ := setD_facts h1
          exact ⟨.inr ⟨hw, .inl ⟨f, v, hf, hv, h1⟩⟩, fun _ h => h, by rw [g1]; exact Grow.refl _, g3⟩
        · cases e
      · cases e
    · rename_i f hf
      split at e
      · rename_i v hv
        split at e
        · rename_i s1 h1
          cases e
          obtain ⟨g1, _, g3, _⟩ := setD_facts h1
          exact ⟨.inr ⟨hw, .inr (.inl ⟨f, v, hf, List.mem_cons_self, h1⟩)⟩, fun _ h => List.mem_cons_of_mem _ h, by rw [g1]; exact Grow.refl _, g3⟩
        · cases e
      · cases e
    · rename_i f hf
      split at e
      · rename_i m hm
        split at e
        · rename_i s1 h1
          cases e
          obtain ⟨g1, _, g3, _⟩ := setD_facts h1
          exact ⟨.inr ⟨hw, .inr (.inr ⟨f, m, hf, hm, List.mem_cons_self, h1⟩)⟩, fun _ h => List.mem_cons_of_mem _ h, by rw [g1]; exact ⟨Nat.le_succ _, fun b hb => Tr.get_put_ne _ _ (Nat.ne_of_lt hb)⟩, g3⟩
        · cases e
      · cases e
    · cases e

theorem drawIts_spec {ops : List Oper} {k : Nat} : ∀ {its : List It} {s s' : St} {fl fl' : List Fl}, drawIts cx ops k its s fl = some (s', fl') →
    ∃ recs, Chain s recs s' ∧ recs.map (fun r => (r.i, r.o)) = segL its k ∧
      (∀ r ∈ recs, QuietW cx ops (fun f T v hi => Fl.look f T v hi ∈ fl') (fun b o hi => Fl.make b o hi ∈ fl') r ∧ r.lo = k ∧ (∃ it ∈ its, it.i = r.i ∧ it.lo = r.lo ∧ it.hi = r.hi) ∧ r.s'.H.n ≤ s'.H.n) ∧
      (∀ f ∈ fl, f ∈ fl') ∧ Grow s.H s'.H ∧ s'.D = s.D
  | [], s, s', fl, fl', e => by cases e; exact ⟨[], rfl, rfl, fun r h => by simp at h, fun _ h => h, Grow.refl _, rfl⟩
  | it :: its, s, s', fl, fl', e => by
    unfold drawIts at e
    cases hb : Nat.beq it.lo k with
    | false =>
      rw [hb] at e
      simp only [cond_false] at e
      obtain ⟨recs, h1, h2, h3, h4⟩ := drawIts_spec e
      refine ⟨recs, h1, by simpa [segL, hb] using h2, fun r hr => ?_, h4⟩
      obtain ⟨g1, g2, ⟨it', g3, g4⟩, g5⟩ := h3 r hr
      exact ⟨g1, g2, ⟨it', List.mem_cons_of_mem _ g3, g4⟩, g5⟩
    | true =>
      rw [hb] at e
      simp only [cond_true] at e
      split at e
      · rename_i s1 fl1 h
        obtain ⟨a1, a2, a3, a4⟩ := drawIt_spec h
        obtain ⟨recs, h1, h2, h3, h4, h5, h6⟩ := drawIts_spec e
        refine ⟨⟨it.i, it.o, s, s1, it.lo, it.hi⟩ :: recs, ⟨rfl, h1⟩, by simpa [segL, hb] using h2, fun r hr => ?_, fun f hf => h4 f (a2 f hf), a3.trans h5, h6.trans a4⟩
        rcases List.mem_cons.1 hr with rfl | hr
        · exact ⟨a1.imp (fun f T v h => h4 _ h) (fun b o h => h4 _ h), Nat.eq_of_beq_eq_true hb, ⟨it, List.mem_cons_self, rfl, rfl, rfl⟩, h5.1⟩
        · obtain ⟨g1, g2, ⟨it', g3, g4⟩, g5⟩ := h3 r hr
          exact ⟨g1, g2, ⟨it', List.mem_cons_of_mem _ g3, g4⟩, g5⟩
      · cases e

/-- An operation that does not act; the heap at each stage. -/
def Quiet (cx : Cx) (ops : List Oper) (its : List It) (Hs : Nat → Hp) (J : Nat) (r : Rc) : Prop :=
  (∃ it ∈ its, it.i = r.i ∧ it.lo = r.lo ∧ it.hi = r.hi) ∧ (∀ j, r.lo ≤ j → j ≤ J → r.s'.H.n ≤ (Hs j).n) ∧
  QuietW cx ops (fun f T v hi => ∀ j, r.lo ≤ j → j ≤ hi → j ≤ J → f (evO T) (Hs j) = some v) (fun b o hi => ∀ j, r.lo ≤ j → j ≤ hi → j ≤ J → (Hs j).b.get b = some o) r

/-- An operation that acts. -/
def Acts (cx : Cx) (call : Caller) (ops : List Oper) (ms : List (Nat × Oper)) (k0 : Nat) (Hs : Nat → Hp) (Ds : Nat → List Dfr) (r : Rc) : Prop :=
  ∃ q, ms[q]? = some (r.i, r.o) ∧ stepOp cx call ops r.o r.s = .ok r.s' ∧ r.s.H = Hs (k0 + q) ∧ r.s.D = Ds (k0 + q) ∧ Grow r.s'.H (Hs (k0 + q + 1)) ∧ Ds (k0 + q + 1) = r.s'.D ∧ r.s.H.n ≤ r.s'.H.n

structure Traced (cx : Cx) (call : Caller) (ops : List Oper) (its : List It) (k : Nat) (ms : List (Nat × Oper)) (s sf : St) (fl : List Fl) (recs : List Rc) (Hs : Nat → Hp) (Ds : Nat → List Dfr) : Prop where
  chain : Chain s recs sf
  ord : recs.map (fun r => (r.i, r.o)) = ordL its k ms
  d0 : Ds k = s.D
  h0 : Grow s.H (Hs k)
  dj : Ds (k + ms.length) = sf.D
  hj : Hs (k + ms.length) = sf.H
  fls : ∀ f ∈ fl, ∀ j, k ≤ j → j ≤ k + ms.length → flOk j (Hs j) f = true
  mon : ∀ j, k ≤ j → j ≤ k + ms.length → (Hs k).n ≤ (Hs j).n
  all : ∀ r ∈ recs, Quiet cx ops its Hs (k + ms.length) r ∧ k ≤ r.lo ∨ Acts cx call ops ms k Hs Ds r

theorem drawSegs_spec {call : Caller} {ops : List Oper} {its : List It} : ∀ {ms : List (Nat × Oper)} {k : Nat} {s sf : St} {fl : List Fl}, drawSegs cx call ops its k ms s fl = .ok sf →
    ∃ recs Hs Ds, Traced cx call ops its k ms s sf fl recs Hs Ds
  | [], k, s, sf, fl, e => by
    unfold drawSegs at e
    split at e
    · rename_i s1 fl1 h
      obtain ⟨recs, h1, h2, h3, h4, h5, h6⟩ := drawIts_spec h
      cases hf : fl1.all (flOk k s1.H) with
      | false => rw [hf] at e; cases e
      | true =>
        rw [hf] at e; cases e
        have hf := List.all_eq_true.1 hf
        have hjk : ∀ {j}, k ≤ j → j ≤ k + ([] : List (Nat × Oper)).length → j = k := fun a b => by simp at b; omega
        refine ⟨recs, fun _ => sf.H, fun _ => sf.D, ⟨h1, by simpa [ordL] using h2, h6, h5, rfl, rfl, fun f hfm j a b => ?_, fun _ _ _ => Nat.le_refl _, fun r hr => .inl ?_⟩⟩
        · cases hjk a b; exact hf _ (h4 f hfm)
        · obtain ⟨g1, g2, g3, g4⟩ := h3 r hr
          refine ⟨⟨g3, fun j _ _ => g4, g1.imp (fun f T v hm => fun j ja jb jc => ?_) (fun b o hm => fun j ja jb jc => ?_)⟩, Nat.le_of_eq g2.symm⟩
          · have hj := hjk (by omega) jc; subst hj; exact flOk_look (hf _ hm) jb
          · have hj := hjk (by omega) jc; subst hj; exact flOk_make (hf _ hm) jb
    · cases e
  | m :: ms, k, s, sf, fl, e => by
    unfold drawSegs at e
    split at e
    · rename_i s1 fl1 h
      obtain ⟨recs, h1, h2, h3, h4, h5, h6⟩ := drawIts_spec h
      cases hf : fl1.all (flOk k s1.H) with
      | false => rw [hf] at e; cases e
      | true =>
        rw [hf] at e
        simp only [cond_true] at e
        have hf := List.all_eq_true.1 hf
        split at e
        · rename_i s2 hs2
          cases hb : Nat.ble s1.H.n s2.H.n with
          | false => rw [hb] at e; cases e
          | true =>
            rw [hb] at e
            simp only [cond_true] at e
            have hb := Nat.le_of_ble_eq_true hb
            obtain ⟨recs', Hs, Ds, t⟩ := drawSegs_spec e
            have e1 : ∀ j, k + 1 ≤ j → (if j ≤ k then s1.H else Hs j) = Hs j := fun j h => if_neg (by omega)
            have e2 : ∀ j, k + 1 ≤ j → (if j ≤ k then s1.D else Ds j) = Ds j := fun j h => if_neg (by omega)
            have e3 : (if k ≤ k then s1.H else Hs k) = s1.H := if_pos (Nat.le_refl _)
            have e4 : (if k ≤ k then s1.D else Ds k) = s1.D := if_pos (Nat.le_refl _)
            have hlen : k + (m :: ms).length = k + 1 + ms.length := by simp; omega
            have hstep : s1.H.n ≤ (Hs (k + 1)).n := Nat.le_trans hb t.h0.1
            refine ⟨recs ++ ⟨m.1, m.2, s1, s2, 0, 0⟩ :: recs', fun j => if j ≤ k then s1.H else Hs j, fun j => if j ≤ k then s1.D else Ds j,
              ⟨h1.append ⟨rfl, t.chain⟩, by simp [ordL, h2, t.ord], by (try dsimp only); rw [e4]; exact h6, by (try dsimp only); rw [e3]; exact h5, by (try dsimp only); rw [hlen, e2 _ (by omega)]; exact t.dj, by (try dsimp only); rw [hlen, e1 _ (by omega)]; exact t.hj, ?_, ?_, ?_⟩⟩
            · intro f hfm j ja jb
              rcases Nat.eq_or_lt_of_le ja with rfl | ja
              · (try dsimp only); rw [e3]; exact hf _ (h4 f hfm)
              · (try dsimp only); rw [e1 _ ja]; exact t.fls f (h4 f hfm) j ja (by omega)
            · intro j ja jb
              rcases Nat.eq_or_lt_of_le ja with rfl | ja
              · exact Nat.le_refl _
              · (try dsimp only); rw [e3, e1 _ ja]; exact Nat.le_trans hstep (t.mon j ja (by omega))
            · intro r hr
              rcases List.mem_append.1 hr with hr | hr
              · refine .inl ?_
                obtain ⟨g1, g2, g3, g4⟩ := h3 r hr
                refine ⟨⟨g3, fun j ja jb => ?_, g1.imp (fun f T v h => fun j ja jb jc => ?_) (fun b o h => fun j ja jb jc => ?_)⟩, Nat.le_of_eq g2.symm⟩
                · rw [g2] at ja
                  rcases Nat.eq_or_lt_of_le ja with rfl | ja
                  · (try dsimp only); rw [e3]; exact g4
                  · (try dsimp only); rw [e1 _ ja]; exact Nat.le_trans g4 (Nat.le_trans hstep (t.mon j ja (by omega)))
                · rw [g2] at ja
                  rcases Nat.eq_or_lt_of_le ja with rfl | ja
                  · (try dsimp only); rw [e3]; exact flOk_look (hf _ h) jb
                  · (try dsimp only); rw [e1 _ ja]; exact flOk_look (t.fls _ h j ja (by omega)) jb
                · rw [g2] at ja
                  rcases Nat.eq_or_lt_of_le ja with rfl | ja
                  · (try dsimp only); rw [e3]; exact flOk_make (hf _ h) jb
                  · (try dsimp only); rw [e1 _ ja]; exact flOk_make (t.fls _ h j ja (by omega)) jb
              · rcases List.mem_cons.1 hr with rfl | hr
                · refine .inr ⟨0, by simp, hs2, ?_, ?_, ?_, ?_, hb⟩ <;> try dsimp only
                  · rw [Nat.add_zero, e3]
                  · rw [Nat.add_zero, e4]
                  · rw [Nat.add_zero, e1 _ (Nat.le_refl _)]; exact t.h0
                  · rw [Nat.add_zero, e2 _ (Nat.le_refl _)]; exact t.d0
                · rcases t.all r hr with ⟨⟨g1, g2, g3⟩, g4⟩ | ⟨q, g1, g2, g3, g4, g5, g6, g7⟩
                  · refine .inl ⟨⟨g1, fun j ja jb => ?_, g3.imp (fun f T v h => fun j ja jb jc => ?_) (fun b o h => fun j ja jb jc => ?_)⟩, by omega⟩
                    · (try dsimp only); rw [e1 _ (by omega)]; exact g2 j ja (by omega)
                    · (try dsimp only); rw [e1 _ (by omega)]; exact h j ja jb (by omega)
                    · (try dsimp only); rw [e1 _ (by omega)]; exact h j ja jb (by omega)
                  · have ha : k + (q + 1) = k + 1 + q := by omega
                    refine .inr ⟨q + 1, by simpa using g1, g2, ?_, ?_, ?_, ?_, g7⟩ <;> (try dsimp only) <;> rw [ha]
                    · rw [e1 _ (by omega)]; exact g3
                    · rw [e2 _ (by omega)]; exact g4
                    · rw [e1 _ (by omega)]; exact g5
                    · rw [e2 _ (by omega)]; exact g6
        · cases e
    · cases e

end Go.EvM
