/- Reading, writing, making: the interpreter's heap beside the model's. -/
import Derived.Test.YtmnpdgldmpjekaaEvRel
import Derived.Laws.IdiomCopy
import Derived.Laws.Cells
import Derived.Laws.Slices
namespace Go.EvM
set_option linter.unusedVariables false
open Go.RowKit

/-- The interpreter's tables are the program's. -/
structure CxOk (P : Program) (cx : Cx) : Prop where
  ti : ∀ t i, cx.ti t = some i → ∃ f z, P.info? t = some f ∧ P.underlying t = some i.desc ∧ f.size = i.size ∧ f.bytes = i.bytes ∧ f.zero = some z ∧ z.cells.toList = i.zero ∧
    i.zero.length = i.size ∧ ∀ x ∈ i.zero, plainV 4 x = true ∧ oneB x = true
  fn : ∀ f g, cx.fn f = some g → P.funcs[f]? = some g ∧ g.name ≠ "runtime.NumGoroutine"
  zv : ∀ t i, cx.ti t = some i → ∃ f, P.info? t = some f ∧ f.zero = some i.zv ∧ plainV 5 i.zv = true

section
variable {P : Program} {cx : Cx} {t : TypeId} {i : TI}

theorem CxOk.run_typeInfo (C : CxOk P cx) (h : cx.ti t = some i) (w : World) : ∃ f, P.info? t = some f ∧ f.size = i.size ∧ f.bytes = i.bytes ∧ (typeInfo t).run P w = .ok f w := by
  obtain ⟨f, z, h1, h2, h3, h4, _⟩ := C.ti t i h
  exact ⟨f, h1, h3, h4, by simp [typeInfo, h1]⟩
theorem CxOk.run_und (C : CxOk P cx) (h : cx.ti t = some i) (w : World) : (underlying t).run P w = .ok i.desc w := by
  obtain ⟨f, z, h1, h2, h3, h4, _⟩ := C.ti t i h
  simp [underlying, h2]
theorem CxOk.run_size (C : CxOk P cx) (h : cx.ti t = some i) (w : World) : (sizeOf t).run P w = .ok i.size w := by
  obtain ⟨f, h1, h2, _, h3⟩ := C.run_typeInfo h w
  simp [sizeOf, h3, h2]
theorem CxOk.run_isAgg (C : CxOk P cx) (h : cx.ti t = some i) (w : World) : (isAgg t).run P w = .ok (isAggB i.desc) w := by
  simp only [isAgg, Sem.run_bind, C.run_und h, Result.andThen_ok]
  cases i.desc <;> rfl
theorem CxOk.run_zero (C : CxOk P cx) (h : cx.ti t = some i) (w : World) : ∃ z, (zeroValue t).run P w = .ok z w ∧ z.cells.toList = i.zero := by
  obtain ⟨f, z, h1, h2, h3, h4, h5, h6, _⟩ := C.ti t i h
  exact ⟨z, by simp [zeroValue, typeInfo, h1, h5], h6⟩
theorem CxOk.zero_len (C : CxOk P cx) (h : cx.ti t = some i) : i.zero.length = i.size := by
  obtain ⟨f, z, h1, h2, h3, h4, h5, h6, h7, _⟩ := C.ti t i h
  exact h7
theorem CxOk.zero_VRs (C : CxOk P cx) (h : cx.ti t = some i) (μ : Mu) : VRs μ i.zero i.zero := by
  obtain ⟨f, z, h1, h2, h3, h4, h5, h6, h7, h8⟩ := C.ti t i h
  exact plain_VRs μ 4 _ fun x hx => (h8 x hx).1
theorem CxOk.zero_one (C : CxOk P cx) (h : cx.ti t = some i) : ∀ x ∈ i.zero, oneB x = true := by
  obtain ⟨f, z, h1, h2, h3, h4, h5, h6, h7, h8⟩ := C.ti t i h
  exact fun x hx => (h8 x hx).2
end

theorem add_off (b o n : Nat) : Addr.add ⟨b, o, none⟩ n = ⟨b, o + n, none⟩ := by
  unfold Addr.add; split <;> simp_all

theorem one' {v : Value} (h : oneB v = true) : v.oneCell' = true := by cases v <;> first | rfl | exact h

section
variable {P : Program} {W : World} {μ : Mu} {h : Hp} {w : World}

/-! ### Reading -/
theorem Rel.cell (R : Rel W μ h w) {b : Nat} {i : BI} {c : Tr Value} {n z : Nat} {ti ro : Bool} (hb : μ b = some i) (ho : h.b.get b = some (.cells c n z ti ro)) {j : Nat} {a : Value} (hc : c.get j = some a) :
    j < n ∧ ∃ v, w.cell? ⟨i.rb, i.d + j, none⟩ = some v ∧ VR μ a v ∧ oneB a = true := by
  obtain ⟨cs, e, fz, h1, h2, h3, h4, h5, h6, h7, h8⟩ := R.ob b i _ hb ho
  have hj : j < n := by
    rcases Nat.lt_or_ge j n with hj | hj
    · exact hj
    · rw [h6 j hj] at hc; cases hc
  obtain ⟨a', v, p, q, r, s⟩ := h7 j hj
  rw [hc] at p; cases p
  exact ⟨hj, v, by simp [World.cell?, h1, q], r, s⟩

theorem Rel.cells (R : Rel W μ h w) {b : Nat} {i : BI} {c : Tr Value} {n z : Nat} {ti ro : Bool} (hb : μ b = some i) (ho : h.b.get b = some (.cells c n z ti ro)) :
    ∀ {k off : Nat} {l : List Value}, c.getL k off = some l → ∃ l', VRs μ l l' ∧ (∀ x ∈ l, oneB x = true) ∧ l.length = k ∧ (∀ (j : Nat) (v : Value), l'[j]? = some v → w.cell? (Addr.add ⟨i.rb, i.d + off, none⟩ j) = some v) ∧
      (k = 0 ∨ off + k ≤ n) := by
  intro k
  induction k with
  | zero => intro off l hl; rw [Tr.getL_zero] at hl; cases hl; exact ⟨[], .nil, by simp, rfl, by simp, .inl rfl⟩
  | succ k ih =>
    intro off l hl
    rw [Tr.getL_succ] at hl
    cases hx : c.get off with
    | none => rw [hx] at hl; cases hl
    | some a =>
      rw [hx] at hl
      cases hr : c.getL k (off + 1) with
      | none => rw [hr] at hl; cases hl
      | some r =>
        rw [hr] at hl; cases hl
        obtain ⟨hj, v, hv, hva, hone⟩ := R.cell hb ho hx
        obtain ⟨l', g1, g2, g3, g4, g5⟩ := ih hr
        refine ⟨v :: l', .cons hva g1, ?_, by simp [g3], ?_, .inr ?_⟩
        · intro x hx; cases hx with
          | head => exact hone
          | tail _ hx => exact g2 x hx
        · intro j u hu
          cases j with
          | zero => simp at hu; subst hu; rw [add_off]; exact hv
          | succ j =>
            have := g4 j u (by simpa using hu)
            rw [add_off] at this ⊢
            rw [show i.d + off + (j + 1) = i.d + (off + 1) + j from by omega]; exact this
        · omega

theorem Rel.run_loadCells (R : Rel W μ h w) {b : Nat} {i : BI} {c : Tr Value} {n z : Nat} {ti ro : Bool} (hb : μ b = some i) (ho : h.b.get b = some (.cells c n z ti ro))
    {k off : Nat} {l : List Value} (hl : c.getL k off = some l) : ∃ l', VRs μ l l' ∧ (∀ x ∈ l, oneB x = true) ∧ l'.length = k ∧ (loadCells ⟨i.rb, i.d + off, none⟩ k).run P w = .ok l'.toArray w := by
  obtain ⟨l', g1, g2, g3, g4, g5⟩ := R.cells hb ho hl
  have hlen : l'.length = k := by rw [g1.length, g3]
  refine ⟨l', g1, g2, hlen, ?_⟩
  rw [← hlen]
  exact run_loadCells_list w _ l' g4

/-! ### Writing -/
theorem setCells_heap (b : Nat) : ∀ (vs : List Value) (o : Nat) (w : World) (cs : Array Value) (e : TypeId) (fz : Nat × Nat), w.heap[b]? = some (.cells cs e fz) → o + vs.length ≤ cs.size →
    ∃ cs', (w.setCells b o vs).heap[b]? = some (.cells cs' e fz) ∧ cs'.size = cs.size ∧ ∀ k, cs'[k]? = if o ≤ k ∧ k < o + vs.length then vs[k - o]? else cs[k]?
  | [], o, w, cs, e, fz, h, _ => ⟨cs, h, rfl, fun k => by rw [if_neg (by simp)]⟩
  | v :: r, o, w, cs, e, fz, h, hs => by
    have hs' : o < cs.size := by simp at hs; omega
    have h1 : (w.setCell ⟨b, o, none⟩ v).heap[b]? = some (.cells (cs.setIfInBounds o v) e fz) := by
      simp only [World.setCell, Array.getElem?_modify, if_true, h]; simp
    obtain ⟨cs', g1, g2, g3⟩ := setCells_heap b r (o + 1) _ _ e fz h1 (by simp at hs ⊢; omega)
    refine ⟨cs', g1, by rw [g2]; simp, fun k => ?_⟩
    rw [g3]
    by_cases hk : k = o
    · subst hk
      rw [if_neg (by omega), if_pos (by simp)]
      simp [hs']
    · by_cases h2 : o + 1 ≤ k ∧ k < o + 1 + r.length
      · rw [if_pos h2, if_pos (by simp; omega)]
        obtain ⟨m, rfl⟩ : ∃ m, k = o + (m + 1) := ⟨k - o - 1, by omega⟩
        rw [show o + (m + 1) - (o + 1) = m from by omega, show o + (m + 1) - o = m + 1 from by omega]; simp
      · rw [if_neg h2, if_neg (by simp; omega)]
        rw [Array.getElem?_setIfInBounds_ne (by omega)]

theorem setCells_other (b : Nat) : ∀ (vs : List Value) (o : Nat) (w : World) (r : Nat), r ≠ b → (w.setCells b o vs).heap[r]? = w.heap[r]?
  | [], _, _, _, _ => rfl
  | v :: l, o, w, r, hr => by
    rw [World.setCells, setCells_other b l (o + 1) _ r hr]
    exact Below.heap_setCell w ⟨b, o, none⟩ v r hr

theorem setCells_below {N : Nat} (b : Nat) (hb : N ≤ b) : ∀ (vs : List Value) (o : Nat) (w : World), Below N W w → Below N W (w.setCells b o vs)
  | [], _, _, h => h
  | v :: l, o, w, h => setCells_below b hb l (o + 1) _ (h.setCell (p := ⟨b, o, none⟩) hb v)


theorem putCells_eq {b off : Nat} {l : List Value} {h' : Hp} (hp : putCells h b off l = some h') :
    ∃ c n z ti, h.b.get b = some (.cells c n z ti false) ∧ off + l.length ≤ n ∧ h' = ⟨h.n, h.b.put b (.cells (Tr.putL l off c) n z ti false)⟩ := by
  unfold putCells at hp
  split at hp
  · rename_i c n z ti ro he
    cases hc : (Nat.ble (Nat.add off l.length) n && !ro) with
    | false => rw [hc] at hp; cases hp
    | true =>
      rw [hc] at hp
      have hp' : some (⟨h.n, h.b.put b (.cells (Tr.putL l off c) n z ti ro)⟩ : Hp) = some h' := hp
      simp at hc
      obtain ⟨h1, h2⟩ := hc
      subst h2
      exact ⟨c, n, z, ti, he, by simpa using h1, (Option.some.inj hp').symm⟩
  · cases hp

theorem Rel.putCells (R : Rel W μ h w) {b off : Nat} {i : BI} {l l' : List Value} {h' : Hp} (hb : μ b = some i) (hp : EvM.putCells h b off l = some h') (hl : VRs μ l l') (h1 : ∀ x ∈ l, oneB x = true) :
    (storeCells ⟨i.rb, i.d + off, none⟩ l').run P w = .ok () (w.setCells i.rb (i.d + off) l') ∧ Rel W μ h' (w.setCells i.rb (i.d + off) l') ∧ h'.n = h.n := by
  obtain ⟨c, n, z, ti, ho, hle, rfl⟩ := putCells_eq hp
  obtain ⟨cs, e, fz, r1, r2, r3, r4, r5, r6, r7, r8, r9⟩ := R.ob b i _ hb ho
  obtain ⟨r9, r10⟩ := r9 rfl
  have hlen := hl.length
  have hone : ∀ v ∈ l', v.oneCell' = true := by
    intro v hv
    obtain ⟨j, hj⟩ := List.mem_iff_getElem?.1 hv
    obtain ⟨a, ha, hva⟩ := hl.get' hj
    exact one' (by rw [hva.one]; exact h1 a (List.mem_of_getElem? ha))
  have hst := run_storeCells_cells (P := P) i.rb (i.d + off) l' 0 w
    (fun j hj => by
      have hlt : i.d + off + 0 + j < cs.size := by omega
      simp [World.cell?, r1]; omega)
    (fun j hj => by
      simp only [World.frozen?, r1]
      have := r10 (i.d + off + 0 + j) (by omega)
      simpa using this) hone
  refine ⟨by simpa using hst, ?_, rfl⟩
  obtain ⟨cs', g1, g2, g3⟩ := setCells_heap i.rb l' (i.d + off) w cs e fz r1 (by omega)
  refine ⟨R.dom, ?_, ?_, setCells_below _ r9 _ _ _ R.below⟩
  · intro b2 i2 o2 hb2 ho2
    simp only [Tr.get_put] at ho2
    by_cases e2 : b2 = b
    · subst e2
      rw [hb] at hb2; cases hb2
      simp at ho2; subst ho2
      refine ⟨cs', e, fz, g1, r2, r3, r4, by omega, ?_, ?_, r8, fun _ => ⟨r9, r10⟩⟩
      · intro j hj
        rw [Tr.get_putL, if_neg (by omega)]; exact r6 j hj
      · intro j hj
        rw [Tr.get_putL, g3]
        by_cases hin : off ≤ j ∧ j < off + l.length
        · rw [if_pos hin, if_pos (by omega)]
          have hlt : j - off < l.length := by omega
          obtain ⟨v, hv, hva⟩ := hl.get (List.getElem?_eq_getElem hlt)
          exact ⟨_, v, List.getElem?_eq_getElem hlt, by rw [show i.d + j - (i.d + off) = j - off from by omega]; exact hv, hva, h1 _ (List.getElem_mem hlt)⟩
        · rw [if_neg hin, if_neg (by omega)]; exact r7 j hj
    · simp [e2] at ho2
      refine (R.ob b2 i2 o2 hb2 ho2).move (Le.refl _) (setCells_other _ _ _ _ _ ?_)
      intro hrb
      cases o2 with
      | cells c2 n2 z2 ti2 ro2 =>
        cases ro2 with
        | false => exact e2 (R.inj b2 b i2 i _ _ hb2 hb ho2 ho rfl rfl hrb)
        | true =>
          obtain ⟨_, _, _, _, _, _, _, _, _, _, k1, _⟩ := R.ob b2 i2 _ hb2 ho2
          have := k1 rfl
          omega
      | map es ck => exact e2 (R.inj b2 b i2 i _ _ hb2 hb ho2 ho trivial rfl hrb)
  · intro b1 b2 i1 i2 o1 o2 hb1 hb2 ho1 ho2 w1 w2 hrb
    have fix : ∀ {x : Nat} {o : Ob}, ((h.b.put b (.cells (Tr.putL l off c) n z ti false)).get x = some o) → o.wr → ∃ p, h.b.get x = some p ∧ p.wr := by
      intro x o hx hw
      rw [Tr.get_put] at hx
      by_cases hxb : x = b
      · subst hxb; exact ⟨_, ho, rfl⟩
      · rw [if_neg hxb] at hx; exact ⟨o, hx, hw⟩
    obtain ⟨p1, k1, l1⟩ := fix ho1 w1
    obtain ⟨p2, k2, l2⟩ := fix ho2 w2
    exact R.inj b1 b2 i1 i2 p1 p2 hb1 hb2 k1 k2 l1 l2 hrb

/-! ### Making -/
def Mu.set (μ : Mu) (b : Nat) (i : BI) : Mu := fun c => if c = b then some i else μ c

theorem Mu.set_eq (μ : Mu) (b : Nat) (i : BI) : μ.set b i b = some i := if_pos rfl
theorem Mu.le_set {μ : Mu} {b : Nat} {i : BI} (h : μ b = none) : Le μ (μ.set b i) := fun c j hc => by
  unfold Mu.set; split
  · subst_vars; rw [h] at hc; cases hc
  · exact hc
theorem Mu.ext_set {μ : Mu} {b n : Nat} {i : BI} (h : μ b = none) (hn : n ≤ b) : Ext n μ (μ.set b i) :=
  ⟨Mu.le_set h, fun c j hc => by
    unfold Mu.set at hc; split at hc
    · subst_vars; exact .inr hn
    · exact .inl hc⟩

/-- A new block of the model's, told as block b of the interpreter's, which no one has told till now. -/
theorem Rel.alloc (R : Rel W μ h w) {b : Nat} {i : BI} {ob : Ob} {w' : World} {h' : Hp} (hb : μ b = none) (hrb : i.rb = w.heap.size) (hn : h.n ≤ h'.n) (hbn : b < h'.n) (hob : h'.b.get b = some ob)
    (hold : ∀ c j, μ c = some j → h'.b.get c = h.b.get c) (hw : ∃ x, w'.heap = w.heap.push x) (hos : w'.os = w.os) (htp : w'.tape = w.tape) (hout : w'.output = w.output)
    (hr : RelOb (μ.set b i) W.heap.size w' i ob) : Rel W (μ.set b i) h' w' := by
  obtain ⟨x, hx⟩ := hw
  have hkeep : ∀ r, r < w.heap.size → w'.heap[r]? = w.heap[r]? := fun r hr => by rw [hx, Array.getElem?_push, if_neg (by omega)]
  have hsize := R.below.size
  refine ⟨?_, ?_, ?_, ⟨hos.trans R.below.os, htp.trans R.below.tape, hout.trans R.below.output, by rw [hx]; simp; omega, fun k hk => by rw [hkeep k (by omega)]; exact R.below.block k hk⟩⟩
  · intro c j hc
    unfold Mu.set at hc; split at hc
    · subst_vars; exact hbn
    · exact Nat.lt_of_lt_of_le (R.dom c j hc) hn
  · intro c j o hc ho
    unfold Mu.set at hc; split at hc
    · subst_vars; cases hc; rw [hob] at ho; cases ho; exact hr
    · have ho' : h.b.get c = some o := by rw [← hold c j hc]; exact ho
      have ro := R.ob c j o hc ho'
      exact ro.move (Mu.le_set hb) (hkeep _ ro.old)
  · intro c d j k o p hc hd ho hp wo wp hjk
    unfold Mu.set at hc hd
    split at hc <;> split at hd
    · subst_vars; rfl
    · subst_vars; cases hc
      have hp' : h.b.get d = some p := by rw [← hold d k hd]; exact hp
      have := (R.ob d k p hd hp').old
      omega
    · subst_vars; cases hd
      have ho' : h.b.get c = some o := by rw [← hold c j hc]; exact ho
      have := (R.ob c j o hc ho').old
      omega
    · exact R.inj c d j k o p hc hd (by rw [← hold c j hc]; exact ho) (by rw [← hold d k hd]; exact hp) wo wp hjk

end
end Go.EvM
