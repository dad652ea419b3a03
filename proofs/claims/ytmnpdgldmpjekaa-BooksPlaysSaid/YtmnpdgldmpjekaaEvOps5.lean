/- Structs and arrays built. -/
import Derived.Test.YtmnpdgldmpjekaaEvOps4
import Derived.Laws.Tables
namespace Go.EvM
open Go.RowKit
set_option linter.unusedVariables false
variable {P : Program} {cx : Cx} {o : Oper}

/-- Cells beside cells. -/
def CellsR (μ : Mu) (t : Tr Value) (n : Nat) (cs : Array Value) : Prop :=
  cs.size = n ∧ (∀ j, n ≤ j → t.get j = none) ∧ ∀ j, j < n → ∃ a v, t.get j = some a ∧ cs[j]? = some v ∧ VR μ a v ∧ oneB a = true

theorem CellsR.ofL {μ : Mu} {l : List Value} {cs : Array Value} (h : VRs μ l cs.toList) (h1 : ∀ x ∈ l, oneB x = true) : CellsR μ (Tr.ofL l) l.length cs := by
  refine ⟨by rw [← h.length]; simp, fun j hj => by rw [Tr.get_ofL]; exact List.getElem?_eq_none hj, fun j hj => ?_⟩
  obtain ⟨v, hv, hr⟩ := h.get (List.getElem?_eq_getElem hj)
  exact ⟨l[j], v, by rw [Tr.get_ofL]; exact List.getElem?_eq_getElem hj, by simpa using hv, hr, h1 _ (List.getElem_mem hj)⟩

theorem fold_set (off : Nat) : ∀ (l : List Value) (k : Nat) (cs : Array Value), off + k + l.length ≤ cs.size →
    ((l.zipIdx k).foldl (fun cs (p : Value × Nat) => cs.setIfInBounds (off + p.2) p.1) cs).size = cs.size ∧
    ∀ m, ((l.zipIdx k).foldl (fun cs (p : Value × Nat) => cs.setIfInBounds (off + p.2) p.1) cs)[m]? = if off + k ≤ m ∧ m < off + k + l.length then l[m - (off + k)]? else cs[m]?
  | [], k, cs, _ => ⟨rfl, fun m => by rw [if_neg (by simp)]; rfl⟩
  | v :: l, k, cs, h => by
    have hk : off + k < cs.size := by simp at h; omega
    obtain ⟨h1, h2⟩ := fold_set off l (k + 1) (cs.setIfInBounds (off + k) v) (by simp at h ⊢; omega)
    rw [List.zipIdx_cons, List.foldl_cons]
    refine ⟨by rw [h1]; simp, fun m => ?_⟩
    rw [h2]
    by_cases hm : m = off + k
    · subst hm
      rw [if_neg (by omega), if_pos (by simp)]
      simp [hk]
    · by_cases h3 : off + (k + 1) ≤ m ∧ m < off + (k + 1) + l.length
      · rw [if_pos h3, if_pos (by simp; omega)]
        obtain ⟨q, rfl⟩ : ∃ q, m = off + k + (q + 1) := ⟨m - (off + k) - 1, by omega⟩
        rw [show off + k + (q + 1) - (off + (k + 1)) = q from by omega, show off + k + (q + 1) - (off + k) = q + 1 from by omega]; simp
      · rw [if_neg h3, if_neg (by simp; omega)]
        rw [Array.getElem?_setIfInBounds_ne (by omega)]

theorem cellsL_ok {μ : Mu} {v v' : Value} {cs : List Value} (h : VR μ v v') (e : cellsL v = some cs) : VRs μ cs v'.cells.toList ∧ ∀ x ∈ cs, oneB x = true := by
  unfold cellsL at e
  split at e
  · cases e; cases h with
    | agg hl h1 => exact ⟨hl, h1⟩
  · cases e
  · rename_i v0 n1 n2
    cases e
    have hone : oneB v = true := by
      cases v <;> first | rfl | (exact (n1 _ rfl).elim) | (exact (n2 _ rfl).elim)
    have hc : v'.cells = #[v'] := by
      have := h.one; rw [hone] at this
      cases v' <;> first | rfl | (exact nomatch this)
    rw [hc]
    exact ⟨.cons h .nil, fun x hx => by simp at hx; subst hx; exact hone⟩

theorem fill_ok {μ : Mu} {n : Nat} {place place' : Nat → Option (Nat × Nat)} (hp : ∀ j p, place j = some p → place' j = some p) :
    ∀ (l : List (Nat × Value)) (l' : List (Nat × Value)) (t t' : Tr Value) (cs : Array Value), CellsR μ t n cs → l'.map (·.1) = l.map (·.1) → VRs μ (l.map (·.2)) (l'.map (·.2)) → fillL t n place l = some t' →
    ∃ cs', Instr.fill place' cs l' = some cs' ∧ CellsR μ t' n cs'
  | [], [], t, t', cs, hc, _, _, e => by
    unfold fillL at e; cases e; exact ⟨cs, rfl, hc⟩
  | [], _ :: _, _, _, _, _, h, _, _ => by simp at h
  | _ :: _, [], _, _, _, _, h, _, _ => by simp at h
  | (i, v) :: l, (i', v') :: l', t, t', cs, hc, h, hv, e => by
    simp at h
    obtain ⟨rfl, h⟩ := h
    simp at hv
    cases hv with
    | cons hv0 hvs =>
      unfold fillL at e
      cases hpl : place i' with
      | none => rw [hpl] at e; cases e
      | some q =>
        obtain ⟨off, size⟩ := q
        rw [hpl] at e; dsimp only at e
        cases hcl : cellsL v with
        | none => rw [hcl] at e; cases e
        | some cl =>
          rw [hcl] at e; dsimp only at e
          cases hb : (Nat.beq cl.length size && Nat.ble (Nat.add off size) n) with
          | false => rw [hb] at e; cases e
          | true =>
            rw [hb] at e
            simp only [Bool.and_eq_true] at hb
            have hb1 : cl.length = size := Nat.eq_of_beq_eq_true hb.1
            have hb2 : off + size ≤ n := Nat.le_of_ble_eq_true hb.2
            obtain ⟨hcv, h1⟩ := cellsL_ok hv0 hcl
            obtain ⟨c1, c2, c3⟩ := hc
            have hlen : v'.cells.toList.length = size := by rw [hcv.length, hb1]
            have hlen' : v'.cells.size = size := by simpa using hlen
            obtain ⟨f1, f2⟩ := fold_set off v'.cells.toList 0 cs (by rw [hlen, c1]; omega)
            have hfold : v'.cells.zipIdx.foldl (fun cs (p : Value × Nat) => cs.setIfInBounds (off + p.2) p.1) cs = (v'.cells.toList.zipIdx 0).foldl (fun cs (p : Value × Nat) => cs.setIfInBounds (off + p.2) p.1) cs := by
              rw [← Array.foldl_toList]; simp
            have hC : CellsR μ (Tr.putL cl off t) n (v'.cells.zipIdx.foldl (fun cs (p : Value × Nat) => cs.setIfInBounds (off + p.2) p.1) cs) := by
              rw [hfold]
              refine ⟨by rw [f1, c1], fun j hj => by rw [Tr.get_putL, if_neg (by omega)]; exact c2 j hj, fun j hj => ?_⟩
              rw [Tr.get_putL, f2]
              by_cases hin : off ≤ j ∧ j < off + cl.length
              · rw [if_pos hin, if_pos (by rw [hlen]; omega)]
                have hlt : j - off < cl.length := by omega
                obtain ⟨u, hu, hr⟩ := hcv.get (List.getElem?_eq_getElem hlt)
                exact ⟨_, u, List.getElem?_eq_getElem hlt, by rw [Nat.add_zero]; exact hu, hr, h1 _ (List.getElem_mem hlt)⟩
              · rw [if_neg hin, if_neg (by rw [hlen]; omega)]; exact c3 j hj
            obtain ⟨cs', g1, g2⟩ := fill_ok hp l l' _ t' _ hC h hvs e
            refine ⟨cs', ?_, g2⟩
            rw [Instr.fill, hp i' _ hpl]
            dsimp only
            rw [if_neg (by rw [hlen', c1]; simp; omega)]
            exact g1

theorem parts_ok {μ : Mu} {ρ ρ' : Env} {ps : Array (Nat × Operand)} (h : ∀ p ∈ ps.toList, VR μ (ρ p.2) (ρ' p.2)) :
    ((ps.map fun (i, x) => (i, ρ' x)).toList.map (·.1) = (partsOf ρ ps).map (·.1)) ∧ VRs μ ((partsOf ρ ps).map (·.2)) ((ps.map fun (i, x) => (i, ρ' x)).toList.map (·.2)) := by
  obtain ⟨ps⟩ := ps
  constructor
  · simp [partsOf]
  · simp only [partsOf, List.map_map, List.map_toArray]
    exact VRs.map (fun p hp => h p hp)

theorem CellsR.list {μ : Mu} {t : Tr Value} {n : Nat} {cs : Array Value} (h : CellsR μ t n cs) {l : List Value} (hl : t.getL n 0 = some l) : VRs μ l cs.toList ∧ ∀ x ∈ l, oneB x = true := by
  obtain ⟨g1, g2⟩ := Tr.getL_spec t n 0 l hl
  obtain ⟨c1, c2, c3⟩ := h
  refine ⟨VRs.mk (by simp [c1, g1]) fun j a v ha hv => ?_, fun x hx => ?_⟩
  · have hj : j < n := by rw [← g1]; exact (List.getElem?_eq_some_iff.1 ha).1
    obtain ⟨a', v', p, q, r, s⟩ := c3 j hj
    have := g2 j hj
    rw [Nat.zero_add, p, ha] at this
    cases this
    have hv' : cs[j]? = some v := by simpa using hv
    rw [q] at hv'; cases hv'; exact r
  · obtain ⟨j, hj⟩ := List.mem_iff_getElem?.1 hx
    have hjn : j < n := by rw [← g1]; exact (List.getElem?_eq_some_iff.1 hj).1
    obtain ⟨a', v', p, q, r, s⟩ := c3 j hjn
    have := g2 j hjn
    rw [Nat.zero_add, p, hj] at this
    cases this; exact s

theorem placesL_ok (C : CxOk P cx) : ∀ (fs : List Field) (pl : List (Nat × Nat)), placesL cx fs = some pl → fs.mapM (fun f => (P.info? f.type).map fun i => (f.offset, i.size)) = some pl
  | [], pl, e => by unfold placesL at e; cases e; rfl
  | f :: fs, pl, e => by
    unfold placesL at e
    cases hi : cx.ti f.type with
    | none => rw [hi] at e; cases e
    | some i =>
      rw [hi] at e; dsimp only at e
      cases hr : placesL cx fs with
      | none => rw [hr] at e; cases e
      | some r =>
        rw [hr] at e; cases e
        obtain ⟨g, z, h1, h2, h3, _⟩ := C.ti _ _ hi
        simp [List.mapM_cons, h1, h3, placesL_ok C fs r hr]

theorem ok_buildS {t : TypeId} {ps : Array (Nat × Operand)} {i : TI} {fs : Array Field} {pl : List (Nat × Nat)} (C : CxOk P cx) (ht : cx.ti t = some i) (hd : i.desc = .struct fs) (hpl : placesL cx fs.toList = some pl) (ho : o.op = .build t ps) :
    PureOk P o fun ρ => buildS pl i.zero i.size (partsOf ρ ps) := by
  intro μ ρ ρ' w v h e
  dsimp only at e
  unfold buildS at e
  split at e
  · rename_i tr htr
    split at e
    · rename_i l hl
      cases e
      obtain ⟨f, z, h1, h2, h3, h4, h5, h6, h7, h8⟩ := C.ti t i ht
      obtain ⟨p1, p2⟩ := parts_ok (μ := μ) (ρ := ρ) (ρ' := ρ') (ps := ps) (fun p hp => mem_ops h ho (by simp [Op.operands]; exact ⟨p.1, by simpa using hp⟩))
      have hz : CellsR μ (Tr.ofL i.zero) i.size z.cells := by
        have := CellsR.ofL (μ := μ) (l := i.zero) (cs := z.cells) (by rw [h6]; exact C.zero_VRs ht μ) (C.zero_one ht)
        rwa [h7] at this
      obtain ⟨cs', g1, g2⟩ := fill_ok (place' := (pl.toArray[·]?)) (fun j p hj => by rw [nth_eq] at hj; simpa using hj) _ _ _ _ _ hz p1 p2 htr
      obtain ⟨q1, q2⟩ := g2.list hl
      refine ⟨.agg cs', ?_, VR.agg q1 q2⟩
      have hb : P.built t (ps.map fun (i, x) => (i, ρ' x)).toList = some cs' := by
        simp only [Program.built, h1, h2, hd, h5, placesL_ok C _ _ hpl]; exact g1
      unfold execOp; rw [ho]; exact run_v (run_build w t _ _ hb)
    · cases e
  · cases e

theorem ok_buildA {t e : TypeId} {ps : Array (Nat × Operand)} {i ei : TI} {n : Nat} (C : CxOk P cx) (ht : cx.ti t = some i) (hd : i.desc = .array n e) (he : cx.ti e = some ei) (ho : o.op = .build t ps) :
    PureOk P o fun ρ => buildA ei.size i.zero i.size (partsOf ρ ps) := by
  intro μ ρ ρ' w v h e
  dsimp only at e
  unfold buildA at e
  split at e
  · rename_i tr htr
    split at e
    · rename_i l hl
      cases e
      obtain ⟨f, z, h1, h2, h3, h4, h5, h6, h7, h8⟩ := C.ti t i ht
      obtain ⟨f', z', h1', h2', h3', _⟩ := C.ti _ ei he
      obtain ⟨p1, p2⟩ := parts_ok (μ := μ) (ρ := ρ) (ρ' := ρ') (ps := ps) (fun p hp => mem_ops h ho (by simp [Op.operands]; exact ⟨p.1, by simpa using hp⟩))
      have hz : CellsR μ (Tr.ofL i.zero) i.size z.cells := by
        have := CellsR.ofL (μ := μ) (l := i.zero) (cs := z.cells) (by rw [h6]; exact C.zero_VRs ht μ) (C.zero_one ht)
        rwa [h7] at this
      obtain ⟨cs', g1, g2⟩ := fill_ok (place' := fun i => some (i * f'.size, f'.size)) (fun j p hj => by rw [h3']; exact hj) _ _ _ _ _ hz p1 p2 htr
      obtain ⟨q1, q2⟩ := g2.list hl
      refine ⟨.agg cs', ?_, VR.agg q1 q2⟩
      have hb : P.built t (ps.map fun (i, x) => (i, ρ' x)).toList = some cs' := by
        simp only [Program.built, h1, h2, hd, h5, h1']; exact g1
      unfold execOp; rw [ho]; exact run_v (run_build w t _ _ hb)
    · cases e
  · cases e
end Go.EvM
