/- Pv.Sim7: slices made, cut, appended to; conversions; every operation. -/
import Derived.Test.YtodccifahbgogaaFvA
set_option linter.unusedVariables false
set_option linter.unusedSectionVars false
set_option linter.unusedSimpArgs false
namespace Go.Pv
open Go Go.EvM
set_option linter.unusedVariables false
set_option linter.unusedSectionVars false
variable [Dat] {cx : Cx} {tb : TypeId → Option TB} {e : PEnv} {os os' : List PObj} {Φ : Fz} {g : Gh} {T : Tr Value} {H : Hp} {v : V} {tt : List Nat}
theorem els_sim {c es n : Nat} (hes : es = Dat.sz c) (ht0 : ∀ t, Rep Φ g (e t) (slotV T t)) :
    ∀ (ps : List (Nat × Operand)) (k : Nat) (os os' : List PObj) (Φ1 : Fz) (xs : List (Dat.S c)) (c0 : Tr Value), ps.all (fun p => okP p.2) = true → elsP c k os (partsP e ps) = some (xs, os') → FLe Φ Φ1 → HS Φ1 g os H → (k + ps.length) * es ≤ n →
      ∃ Φ' c' nv, fillL c0 n (fun j => some (Nat.mul j es, es)) (ps.map fun p => (p.1, evO T p.2)) = some c' ∧ FLe Φ Φ' ∧ NvR Φ' g c xs nv ∧ At c' (k * es) nv ∧ (∀ i, i < k * es → c'.get i = c0.get i) ∧ HS Φ' g os' H ∧ Nx Φ1 g os H Φ' g os' H [] ∧ (okT c0 → n ≤ 4 ^ 29 → okT c')
  | [], k, os, os', Φ1, xs, c0, _, h, hf, hs, hn => by
    have h : some (([] : List (Dat.S c)), os) = some (xs, os') := h
    cases h
    exact ⟨Φ1, c0, [], rfl, hf, .nil c, fun j v h => by simp at h, fun _ _ => rfl, hs, Nx.refl _ _ _ _, fun h _ => h⟩
  | (j, x) :: ps, k, os, os', Φ1, xs, c0, hok, h, hf, hs, hn => by
    simp only [List.all_cons, Bool.and_eq_true] at hok
    simp only [List.length_cons] at hn
    have h : (bif Nat.beq j k then (match frzV os (evP e x) with
      | (v', os') => (match mkE c v' with
        | some x => (match elsP c (Nat.succ k) os' (partsP e ps) with
          | some (xs, os'') => some (x :: xs, os'')
          | none => none)
        | none => none)) else none) = some (xs, os') := h
    cases hq : Nat.beq j k with
    | false => rw [hq] at h; cases h
    | true =>
      rw [hq] at h
      obtain rfl := Nat.eq_of_beq_eq_true hq
      simp only [cond_true] at h
      generalize hfv : frzV os (evP e x) = q at h
      obtain ⟨v', os1⟩ := q
      dsimp only at h
      split at h
      · rename_i y hy
        split at h
        · rename_i ys os2 hrec
          simp only [Option.some.injEq, Prod.mk.injEq] at h
          obtain ⟨rfl, rfl⟩ := h
          obtain ⟨Φ2, k1, k2, k3⟩ := frzV_sim hs ((opnd_rep ht0 hok.1).mono hf (GLe.refl _)) hfv
          obtain ⟨vs, m1, m2, m3, m4⟩ := mkE_rep k2 hy
          have hvs := reps_sz m2
          obtain ⟨Φ3, c', nv, r1, r2, r3, r4, r5, r6, r7, r8⟩ := els_sim hes ht0 ps (j + 1) os1 os2 Φ2 ys (Tr.putL vs (j * es) c0) hok.2 hrec (hf.trans k3.phi) k1 (by rw [show j + 1 + ps.length = j + (ps.length + 1) by omega]; exact hn)
          have hbound : j * es + es ≤ n := by
            have := Nat.mul_le_mul_right es (show j + 1 ≤ j + (ps.length + 1) by omega)
            rw [Nat.add_mul, Nat.one_mul] at this; omega
          refine ⟨Φ3, c', vs ++ nv, ?_, r2, r3.cons (m2.mono r7.phi (GLe.refl _)) m3, fun i u hu => ?_, fun i hi => ?_, r6, k3.nil_trans r7 (fun o ho => by cases ho), fun h1 h2 => r8 (okT_putL h1 (by omega) (fun u hu => f3_of_f2 (f2_of_f1 (m3 u hu)))) h2⟩
          · show (match cellsL (evO T x) with
              | some cs => bif Nat.beq cs.length es && Nat.ble (Nat.add (Nat.mul j es) es) n then fillL (Tr.putL cs (Nat.mul j es) c0) n (fun j => some (Nat.mul j es, es)) (ps.map fun p => (p.1, evO T p.2)) else none
              | none => none) = some c'
            rw [m1]
            dsimp only
            rw [show (Nat.beq vs.length es && Nat.ble (Nat.add (Nat.mul j es) es) n) = true by
              rw [Bool.and_eq_true]; exact ⟨by rw [hvs, hes]; simp, Nat.ble_eq_true_of_le hbound⟩]
            exact r1
          · by_cases hi : i < vs.length
            · rw [List.getElem?_append_left hi] at hu
              rw [r5 _ (by rw [Nat.add_mul, Nat.one_mul]; omega), Tr.get_putL, if_pos (by omega), show j * es + i - j * es = i by omega]
              exact hu
            · rw [List.getElem?_append_right (by omega)] at hu
              have := r4 _ u hu
              rw [show (j + 1) * es + (i - vs.length) = j * es + i by rw [Nat.add_mul, Nat.one_mul]; omega] at this
              exact this
          · rw [r5 i (by rw [Nat.add_mul, Nat.one_mul]; omega), Tr.get_putL, if_neg (by omega)]
        · cases h
      · cases h
theorem repL_len (z : List Value) : ∀ n, (repL z n).length = n * z.length
  | 0 => by show ([] : List Value).length = _; simp
  | n + 1 => by
    show (z ++ repL z n).length = _
    rw [List.length_append, repL_len z n, Nat.add_mul, Nat.one_mul, Nat.add_comm]
theorem repL_mem {z : List Value} {x : Value} : ∀ {n}, x ∈ repL z n → x ∈ z
  | 0, h => by have h : x ∈ ([] : List Value) := h; cases h
  | n + 1, h => by
    have h : x ∈ z ++ repL z n := h
    rcases List.mem_append.1 h with h | h
    · exact h
    · exact repL_mem h
theorem good_buildSlice (C : PvOk cx tb) {t : TypeId} {n : Nat} {ps : Array (Nat × Operand)} (hx : ps.toList.all (fun p => okP p.2) = true) (h : pop tb os e (.buildSlice t n ps) = .ok true v os' tt) : Good cx e os (.buildSlice t n ps) v os' tt := by
  have h : (match tb t with
    | some b => (match b.kind with
      | .sl el => (match tb el, Dat.code el with
        | some eb, some c => bif Nat.beq (Dat.sz c) eb.size && (Nat.beq n ps.toList.length && Nat.ble (Nat.mul n eb.size) 16777216) then (match elsP c 0 os (partsP e ps.toList) with
          | some (xs, os') => PR.ok true (.loc os'.length) (os' ++ [PObj.arr c xs]) []
          | none => .no) else .no
        | _, _ => .no)
      | _ => .no)
    | none => .no) = .ok true v os' tt := h
  split at h
  · rename_i b hb
    obtain ⟨i, h1, h2⟩ := C.tb t b hb
    split at h
    · rename_i el hk
      have hk2 := h2.kind
      rw [hk] at hk2
      split at h
      · rename_i eb c heb hcd
        obtain ⟨ei, k1, k2⟩ := C.tb el eb heb
        cases hq : Nat.beq (Dat.sz c) eb.size && (Nat.beq n ps.toList.length && Nat.ble (Nat.mul n eb.size) 16777216) with
        | false => rw [hq] at h; cases h
        | true =>
          rw [hq] at h
          rw [Bool.and_eq_true, Bool.and_eq_true] at hq
          have q1 := Nat.eq_of_beq_eq_true hq.1
          have q2 := Nat.eq_of_beq_eq_true hq.2.1
          have q3 : n * eb.size ≤ 16777216 := Nat.le_of_ble_eq_true hq.2.2
          simp only [cond_true] at h
          split at h
          · rename_i xs os1 hels
            simp only [PR.ok.injEq] at h
            obtain ⟨_, rfl, rfl, rfl⟩ := h
            intro Φ g T H R
            have hpos := k2.pos
            obtain ⟨Φ', c', nv, r1, r2, r3, r4, r5, r6, r7, r8⟩ := els_sim (n := n * eb.size) (es := eb.size) q1.symm R.tm ps.toList 0 os os1 Φ xs (Tr.ofL (repL ei.zero n)) hx hels (FLe.refl _) R.hs (by rw [Nat.zero_add, ← q2]; exact Nat.le_refl _)
            have hxl : xs.length = n := by
              have := els_len hels
              rw [this, q2]; simp [partsP]
            rw [Nat.zero_mul] at r4
            obtain ⟨s1, s2⟩ := r6.newArr r3 r4 (n := n * eb.size) (cp := n) (z := ⟨eb.size, none⟩) (t := true) rfl (by omega) (by rw [q1]; exact Nat.le_refl _)
            rw [hxl] at s1 s2
            have hz := (k2.zero Φ g).length
            have hzl := k2.zl
            refine ⟨.slice (some ⟨H.n, 0, none⟩) n n, _, Φ', _, ?_, rep_loc_new g Φ' r6.n.symm, s1, r7.nil_trans s2 (fun o ho => by cases ho)⟩
            show OpR Φ' _ _ (cBuildSlice cx t n ps) T H _ _
            unfold cBuildSlice
            rw [h1]; dsimp only
            rw [hk2]; dsimp only
            rw [k1]; dsimp only
            rw [k2.size, show (Nat.ble (Nat.mul n eb.size) 16777216 && Nat.blt 0 eb.size) = true by
              rw [Bool.and_eq_true]; exact ⟨hq.2.2, Nat.ble_eq_true_of_le hpos⟩]
            refine .make (m := ⟨.cells c' (Nat.mul n eb.size) ⟨eb.size, none⟩ true false, fun r => .slice (some ⟨r, 0, none⟩) n n⟩) ?_ ⟨os1.length, by simp [leansOn], by rw [← r6.n]; exact if_pos rfl, by rw [← r6.n]; exact if_pos rfl⟩ (eqOb_refl (r8 (okT_ofL (by
              rw [repL_len, show ei.zero.length = eb.size by omega]; omega) (fun u hu => f3_of_f2 (f2_of_f1 (k2.zf u (repL_mem hu))))) (by omega)))
            show buildSl ei.zero eb.size n (ps.toList.map fun p => (p.1, evO T p.2)) = _
            unfold buildSl
            rw [show Nat.mul n eb.size = n * eb.size from rfl, r1]
          · cases h
      · cases h
    · cases h
  · cases h
where els_len {c : Nat} : ∀ {l : List (Nat × V)} {k : Nat} {os os' : List PObj} {xs : List (Dat.S c)}, elsP c k os l = some (xs, os') → xs.length = l.length
  | [], k, os, os', xs, h => by
    have h : some (([] : List (Dat.S c)), os) = some (xs, os') := h
    cases h; rfl
  | (j, v) :: l, k, os, os', xs, h => by
    unfold elsP at h
    cases hq : Nat.beq j k with
    | false => rw [hq] at h; cases h
    | true =>
      rw [hq] at h
      simp only [cond_true] at h
      split at h
      · split at h
        · rename_i hrec
          cases h
          simp [els_len hrec]
        · cases h
      · cases h
theorem good_makeSlice (C : PvOk cx tb) {t : TypeId} {l c : Operand} (hl : okP l = true) (hc : okP c = true) (h : pop tb os e (.makeSlice t l c) = .ok true v os' tt) : Good cx e os (.makeSlice t l c) v os' tt := by
  have h : (match tb t with
    | some b => (match b.kind with
      | .sl el => (match tb el, Dat.code el with
        | some eb, some k => bif Nat.beq (Dat.sz k) eb.size then (match evP e l, evP e c, Dat.mkD k eb.zero with
          | .int _ m, .int _ n, some z => PR.ok (leI (.ofNat 0) m && (leI (.ofNat 0) n && (Nat.ble (iNat m) (iNat n) && (Nat.ble (iNat n) 1073741824 && Nat.ble (Nat.mul (iNat n) eb.bytes) 1099511627776)))) (.loc os.length) (os ++ [PObj.arr k (List.replicate (iNat m) z)]) []
          | _, _, _ => .no) else .no
        | _, _ => .no)
      | _ => .no)
    | none => .no) = .ok true v os' tt := h
  split at h
  · rename_i b hb
    obtain ⟨i, h1, h2⟩ := C.tb t b hb
    split at h
    · rename_i el hk
      have hk2 := h2.kind
      rw [hk] at hk2
      split at h
      · rename_i eb k heb hcd
        obtain ⟨ei, k1, k2⟩ := C.tb el eb heb
        cases hq : Nat.beq (Dat.sz k) eb.size with
        | false => rw [hq] at h; cases h
        | true =>
          rw [hq] at h
          have hq := Nat.eq_of_beq_eq_true hq
          simp only [cond_true] at h
          split at h
          · rename_i km m kn n z hm hn hz
            simp only [PR.ok.injEq, Bool.and_eq_true] at h
            obtain ⟨⟨c1, c2, c3, c4, c5⟩, rfl, rfl, rfl⟩ := h
            intro Φ g T H R
            have hr1 := opnd_rep R.tm hl
            have hr2 := opnd_rep R.tm hc
            rw [hm] at hr1
            rw [hn] at hr2
            generalize hu1 : evO T l = u1 at hr1
            generalize hu2 : evO T c = u2 at hr2
            cases hr1; cases hr2
            have e1 := leI_iNat c1
            have e2 := leI_iNat c2
            have c3' : iNat m ≤ iNat n := Nat.le_of_ble_eq_true c3
            have c4' : iNat n ≤ 1073741824 := Nat.le_of_ble_eq_true c4
            have hzr := (k2.zero Φ g).likes (Dat.mkOk _ _ _ hz)
            have hzl := reps_sz hzr
            have hsm := k2.small
            have hpos := k2.pos
            have hnv : ∀ j, NvR Φ g k (List.replicate j z) (repL ei.zero j) := fun j => by
              induction j with
              | zero => exact .nil k
              | succ j ih => rw [List.replicate_succ]; exact ih.cons hzr k2.zf
            have hmul : iNat n * ei.zero.length ≤ 1073741824 * 40 := Nat.mul_le_mul c4' (by omega)
            obtain ⟨s1, s2⟩ := R.hs.newArr (hnv (iNat m)) (c := Tr.ofL (repL ei.zero (iNat n))) (fun j u hu => by
              rw [Nat.zero_add, Tr.get_ofL]
              obtain ⟨d, hd⟩ : ∃ d, iNat n = iNat m + d := ⟨iNat n - iNat m, by omega⟩
              have hap : ∀ a d, repL ei.zero (a + d) = repL ei.zero a ++ repL ei.zero d := fun a d => by
                induction a with
                | zero => rw [Nat.zero_add]; rfl
                | succ a ih => rw [show a + 1 + d = (a + d) + 1 by omega]; show ei.zero ++ repL ei.zero (a + d) = (ei.zero ++ repL ei.zero a) ++ repL ei.zero d; rw [ih, List.append_assoc]
              rw [hd, hap, List.getElem?_append_left (List.getElem?_eq_some_iff.1 hu).1]
              exact hu) (n := iNat n * eb.size) (cp := iNat n) (z := ⟨eb.size, none⟩) (t := true) rfl (by rw [List.length_replicate]; exact c3') (by rw [hq]; exact Nat.le_refl _)
            rw [List.length_replicate] at s1 s2
            refine ⟨.slice (some ⟨H.n, 0, none⟩) (iNat m) (iNat n), _, Φ, _, ?_, rep_loc_new g Φ R.hs.n.symm, s1, s2⟩
            show OpR Φ _ _ (cMakeSlice cx t l c) T H _ _
            unfold cMakeSlice
            rw [h1]; dsimp only
            rw [hk2]; dsimp only
            rw [k1]; dsimp only
            refine .make (m := ⟨.cells (Tr.ofL (repL ei.zero (iNat n))) (Nat.mul (iNat n) eb.size) ⟨eb.size, none⟩ true false, fun r => .slice (some ⟨r, 0, none⟩) (iNat m) (iNat n)⟩) ?_ ⟨os.length, by simp [leansOn], by rw [← R.hs.n]; exact if_pos rfl, by rw [← R.hs.n]; exact if_pos rfl⟩ (eqOb_refl (okT_ofL (by
              rw [repL_len]; omega) (fun u hu => f3_of_f2 (f2_of_f1 (k2.zf u (repL_mem hu))))))
            rw [hu1, hu2, e1, e2]
            dsimp only [natV]
            rw [k2.size, k2.bytes, c3, c4, c5, show Nat.blt 0 eb.size = true from Nat.ble_eq_true_of_le hpos]
            rfl
          · cases h
      · cases h
    · cases h
  · cases h
end Go.Pv
namespace Go.Pv
open Go Go.EvM
set_option linter.unusedVariables false
set_option linter.unusedSectionVars false
variable [Dat] {cx : Cx} {tb : TypeId → Option TB} {e : PEnv} {os os' : List PObj} {Φ : Fz} {g : Gh} {T : Tr Value} {H : Hp} {v : V} {tt : List Nat}
theorem bndV_ok {k : IntKind} {i : Int} {y : Nat} (h1 : leI (.ofNat 0) i = true) (h2 : iNat i ≤ y) : bndV (.int k i) y = some (iNat i) := by
  rw [leI_iNat h1]
  show (bif Nat.ble (iNat i) y then some (iNat i) else none) = some (iNat i)
  rw [Nat.ble_eq_true_of_le h2]; rfl
theorem bounds_sim {len cap : Nat} {lo hi : Option V} {lo' hi' : Option Value} {a b : Nat} (h : cutP len lo hi = some (true, a, b)) (hc : len ≤ cap)
    (hlo : (lo = none ∧ lo' = none) ∨ ∃ p u, lo = some p ∧ lo' = some u ∧ Rep Φ g p u) (hhi : (hi = none ∧ hi' = none) ∨ ∃ p u, hi = some p ∧ hi' = some u ∧ Rep Φ g p u) :
    bounds len cap lo' hi' none = some (a, b, cap) ∧ a ≤ b ∧ b ≤ len := by
  unfold cutP at h
  rcases hlo with ⟨rfl, rfl⟩ | ⟨p, u, rfl, rfl, hp⟩ <;> rcases hhi with ⟨rfl, rfl⟩ | ⟨q, w, rfl, rfl, hq⟩
  · cases h; exact ⟨rfl, Nat.zero_le _, Nat.le_refl _⟩
  · cases q <;> first | cases h; done | skip
    cases hq
    simp only [Option.some.injEq, Prod.mk.injEq, Bool.and_eq_true] at h
    obtain ⟨⟨h1, h2⟩, rfl, rfl⟩ := h
    have h2 := Nat.le_of_ble_eq_true h2
    refine ⟨?_, Nat.zero_le _, h2⟩
    simp only [bounds, bndO]
    rw [bndV_ok h1 (Nat.le_trans h2 hc)]
  · cases p <;> first | cases h; done | skip
    cases hp
    simp only [Option.some.injEq, Prod.mk.injEq, Bool.and_eq_true] at h
    obtain ⟨⟨h1, h2⟩, rfl, rfl⟩ := h
    have h2 := Nat.le_of_ble_eq_true h2
    refine ⟨?_, h2, Nat.le_refl _⟩
    simp only [bounds, bndO]
    rw [bndV_ok h1 h2]
  · cases p <;> first | cases h; done | skip
    cases q <;> first | cases h; done | skip
    cases hp
    cases hq
    simp only [Option.some.injEq, Prod.mk.injEq, Bool.and_eq_true] at h
    obtain ⟨⟨h1, h2, h3, h4⟩, rfl, rfl⟩ := h
    have h3 := Nat.le_of_ble_eq_true h3
    have h4 := Nat.le_of_ble_eq_true h4
    refine ⟨?_, h3, h4⟩
    simp only [bounds, bndO]
    rw [bndV_ok h2 (Nat.le_trans h4 hc)]
    dsimp only
    rw [bndV_ok h1 h3]
theorem opt_rep (ht : ∀ t, Rep Φ g (e t) (slotV T t)) {x : Option Operand} (hx : x.toArray.toList.all okP = true) : (x.map (evP e) = none ∧ x.map (evO T) = none) ∨ ∃ p u, x.map (evP e) = some p ∧ x.map (evO T) = some u ∧ Rep Φ g p u := by
  cases x with
  | none => exact .inl ⟨rfl, rfl⟩
  | some x => exact .inr ⟨_, _, rfl, rfl, opnd_rep ht (by simpa using hx)⟩
theorem good_slice (C : PvOk cx tb) {t : TypeId} {x : Operand} {lo hi : Option Operand} (hx : okP x = true) (hlo : lo.toArray.toList.all okP = true) (hhi : hi.toArray.toList.all okP = true) (h : pop tb os e (.slice t x lo hi none) = .ok true v os' tt) : Good cx e os (.slice t x lo hi none) v os' tt := by
  have h : pSlice tb os t (evP e x) (lo.map (evP e)) (hi.map (evP e)) = .ok true v os' tt := h
  unfold pSlice at h
  split at h
  · rename_i b hb
    obtain ⟨i, h1, h2⟩ := C.tb t b hb
    have hk2 := h2.kind
    split at h
    · rename_i hk
      rw [hk] at hk2
      split at h
      · rename_i l hxx
        split at h
        · rename_i c a b hcut
          simp only [PR.ok.injEq] at h
          obtain ⟨rfl, rfl, rfl, rfl⟩ := h
          refine Good.same fun Φ g T H R => ?_
          have hr := opnd_rep R.tm hx
          rw [hxx] at hr
          generalize hu : evO T x = u at hr
          cases hr
          obtain ⟨k1, _, _⟩ := bounds_sim (cap := l.length) hcut (Nat.le_refl _) (opt_rep R.tm hlo) (opt_rep R.tm hhi)
          refine ⟨_, ?_, .str _⟩
          show OpR Φ g _ (cSlice cx t x lo hi none) T H _ H
          unfold cSlice
          rw [h1]; dsimp only
          rw [hk2]; dsimp only
          refine .pure ?_
          rw [hu]
          show sliceStr ⟨⟨l⟩⟩ _ _ = _
          unfold sliceStr
          dsimp only
          rw [k1]
          rfl
        · cases h
      · cases h
    · rename_i el hk
      rw [hk] at hk2
      split at h
      · rename_i eb heb
        obtain ⟨ei, k1, k2⟩ := C.tb el eb heb
        split at h
        · rename_i c l os1 hfr
          cases hq : Nat.beq (Dat.sz c) eb.size with
          | false => rw [hq] at h; cases h
          | true =>
            rw [hq] at h
            have hq := Nat.eq_of_beq_eq_true hq
            simp only [cond_true] at h
            split at h
            · rename_i q a b hcut
              simp only [PR.ok.injEq] at h
              obtain ⟨rfl, rfl, rfl, rfl⟩ := h
              intro Φ g T H R
              obtain ⟨Φ', m1, m2, m3⟩ := frz1_sim R.hs (opnd_rep R.tm hx) hfr
              have hc : cOp cx (.slice t x lo hi none) = .look fun ρ h => sliceSl h eb.size (ρ x) (lo.map ρ) (hi.map ρ) none := by
                show cSlice cx t x lo hi none = _
                unfold cSlice
                rw [h1]; dsimp only
                rw [hk2]; dsimp only
                rw [k1]; dsimp only
                rw [k2.size]
                rfl
              rw [hc]
              generalize hu : evO T x = u at m2
              cases m2 with
              | sln =>
                obtain ⟨r1, r2, r3⟩ := bounds_sim (cap := 0) hcut (Nat.le_refl _) (opt_rep R.tm hlo) (opt_rep R.tm hhi)
                have r3 : b ≤ 0 := r3
                obtain rfl : b = 0 := by omega
                obtain rfl : a = 0 := by omega
                refine ⟨.slice none 0 0, H, Φ', g, .look ?_ fun H2 _ => ?_, .sln c, m1, m3⟩
                · rw [hu]; unfold sliceSl; dsimp only; have r1 : bounds 0 0 (lo.map (evO T)) (hi.map (evO T)) none = some (0, 0, 0) := r1; rw [r1]
                · rw [hu]; unfold sliceSl; dsimp only; have r1 : bounds 0 0 (lo.map (evO T)) (hi.map (evO T)) none = some (0, 0, 0) := r1; rw [r1]
              | slb s1 s2 s3 s4 s5 =>
                rename_i bk off cap cs n z t' r vs
                obtain ⟨r1, r2, r3⟩ := bounds_sim (cap := cap) hcut s3 (opt_rep R.tm hlo) (opt_rep R.tm hhi)
                have hlen : (cutL l a b).length = b - a := by
                  unfold cutL; rw [List.length_take, List.length_drop]; show min (b - a) (l.length - a) = b - a; omega
                have hget : ∀ i x, (cutL l a b)[i]? = some x → l[a + i]? = some x := fun i x hi => by
                  unfold cutL at hi
                  rw [List.getElem?_take] at hi
                  split at hi
                  · rw [List.getElem?_drop] at hi; exact hi
                  · cases hi
                have key : ∀ H2 : Hp, H2.b.get bk = some (.cells cs n z t' r) → sliceSl H2 eb.size (.slice (some ⟨bk, off, none⟩) l.length cap) (lo.map (evO T)) (hi.map (evO T)) none = some (.slice (some ⟨bk, off + a * Dat.sz c, none⟩) (b - a) (cap - a)) := fun H2 hH => by
                  unfold sliceSl
                  dsimp only
                  rw [r1]
                  dsimp only
                  have : okZ H2 bk eb.size = true := by
                    unfold okZ; rw [hH]; dsimp only; rw [← hq]; exact s2
                  rw [this, hq]
                  rfl
                refine ⟨.slice (some ⟨bk, off + a * Dat.sz c, none⟩) (b - a) (cap - a), H, Φ', g, .look ?_ fun H2 hH => ?_, ?_, m1, m3⟩
                · rw [hu]; exact key H (m1.phi _ _ s1).2
                · rw [hu]; exact key H2 ((hH bk (.inl ⟨_, s1⟩)).trans (m1.phi _ _ s1).2)
                · have := Rep.slb (l := cutL l a b) (off := off + a * Dat.sz c) (cap := cap - a) (vs := fun i => vs (a + i)) s1 s2 (by omega) (fun i x hi => s4 (a + i) x (hget i x hi)) (fun i x hi j u hj => by
                    have := s5 (a + i) x (hget i x hi) j u hj
                    rw [Nat.add_mul] at this
                    rw [show off + a * Dat.sz c + i * Dat.sz c + j = off + (a * Dat.sz c + i * Dat.sz c) + j by omega]
                    exact this)
                  rw [hlen] at this
                  exact this
            · cases h
        · cases h
      · cases h
    · cases h
  · cases h
theorem app_arr {c : Nat} {l new : List (Dat.S c)} {nv : List Value} {cs : Tr Value} (h1 : ArrC Φ g cs 0 c l) (h2 : NvR Φ g c new nv) : ArrC Φ g (Tr.putL nv (l.length * Dat.sz c) cs) 0 c (l ++ new) := fun i x hx => by
  have hpos := Dat.pos c
  by_cases hi : i < l.length
  · rw [List.getElem?_append_left hi] at hx
    obtain ⟨vs, k1, k2⟩ := h1 i x hx
    have hvs := reps_sz k1
    refine ⟨vs, k1, fun j u hj => ⟨?_, (k2 j u hj).2⟩⟩
    have hjl := (List.getElem?_eq_some_iff.1 hj).1
    have := Nat.mul_le_mul_right (Dat.sz c) (show i + 1 ≤ l.length from hi)
    rw [Nat.add_mul, Nat.one_mul] at this
    rw [Tr.get_putL, if_neg (by omega)]
    exact (k2 j u hj).1
  · rw [List.getElem?_append_right (by omega)] at hx
    obtain ⟨vs, k1, k2⟩ := h2.at_ _ x hx
    refine ⟨vs, k1, fun j u hj => ?_⟩
    have h3 := k2 j u hj
    have hlt := (List.getElem?_eq_some_iff.1 h3).1
    have hm := Nat.mul_le_mul_right (Dat.sz c) (show l.length ≤ i by omega)
    have hs : (i - l.length) * Dat.sz c = i * Dat.sz c - l.length * Dat.sz c := Nat.sub_mul _ _ _
    rw [Tr.get_putL, if_pos (by omega), show 0 + i * Dat.sz c + j - l.length * Dat.sz c = (i - l.length) * Dat.sz c + j by omega]
    exact ⟨h3, h2.f1 u (List.mem_of_getElem? h3)⟩
theorem okAp_spec {bytes n : Nat} (h : okAp bytes n = true) : Nat.ble (Nat.mul n bytes) 1099511627776 = true ∧ Nat.ble n 1099511627776 = true := by
  unfold okAp at h; rw [Bool.and_eq_true] at h; exact h
theorem appGrow_ok {el : TypeId} {c size bytes n m sCap : Nat} {base : Option Addr} {s : Value} {old nv : List Value} {room : Bool} (hz : Dat.sz c = size) (hok : okAp bytes (n + m) = true) (h1 : firstL H size n s = some old) (h2 : mayRoom H size sCap base = some room) :
    appGrow H el size bytes n sCap m base s nv = .ok (.slice (some ⟨H.n, 0, none⟩) (n + m) (n + m)) ⟨Nat.succ H.n, (dropB H.b room base).put H.n (.cells (Tr.ofL (old ++ nv)) (old ++ nv).length ⟨size, elE H el room base⟩ false false)⟩ := by
  unfold appGrow
  obtain ⟨k1, k2⟩ := okAp_spec hok
  rw [show Nat.add n m = n + m from rfl, k1, k2, show Nat.blt 0 size = true from Nat.ble_eq_true_of_le (by have := Dat.pos c; omega), h1, h2]
  rfl
theorem good_append (C : PvOk cx tb) {c : Call} (hc : c.callee = .builtin .append) (ha : c.args.toList.all okP = true) (h : pBuiltin tb os .append (c.args.toList.map (evP e)) c.argTypes.toList = .ok true v os' tt) : Good cx e os (.call c) v os' tt := by
  unfold pBuiltin at h
  dsimp only at h
  split at h
  · rename_i ps px t u hargs hts
    obtain ⟨s, x, hx1, hs2, hx2⟩ : ∃ s x, c.args.toList = [s, x] ∧ evP e s = ps ∧ evP e x = px := by
      cases hl : c.args.toList with
      | nil => rw [hl] at hargs; cases hargs
      | cons s r => cases r with
        | nil => rw [hl] at hargs; cases hargs
        | cons x r =>
          rw [hl] at hargs
          simp only [List.map_cons, List.cons.injEq, List.map_eq_nil_iff] at hargs
          exact ⟨s, x, by rw [hargs.2.2], hargs.1, hargs.2.1⟩
    have hs : okP s = true := by rw [hx1] at ha; simp at ha; exact ha.1
    have hx : okP x = true := by rw [hx1] at ha; simp at ha; exact ha.2
    split at h
    · rename_i b ub hb hub
      obtain ⟨ti, h1, h2⟩ := C.tb t b hb
      obtain ⟨ui, u1, u2⟩ := C.tb u ub hub
      split at h
      · rename_i el ul hk huk
        have hk2 := h2.kind
        rw [hk] at hk2
        have huk2 := u2.kind
        rw [huk] at huk2
        split at h
        · rename_i eb k heb hcd
          obtain ⟨ei, k1, k2⟩ := C.tb el eb heb
          cases hq : Nat.beq (Dat.sz k) eb.size with
          | false => rw [hq] at h; cases h
          | true =>
            rw [hq] at h
            have hq := Nat.eq_of_beq_eq_true hq
            simp only [cond_true] at h
            have hcl : cOp cx (.call c) = .eff fun ρ h => appV h el eb.size eb.bytes (ρ s) (ρ x) := by
              show cCall cx c = _
              unfold cCall
              rw [hc]; dsimp only
              unfold cBuiltin
              dsimp only
              rw [hx1, hts]
              dsimp only
              unfold cAppend
              rw [h1]; dsimp only
              rw [hk2]; dsimp only
              rw [k1]; dsimp only
              rw [k2.size, k2.bytes]
              have : isIntT cx u = false := by unfold isIntT; rw [u1]; dsimp only; rw [huk2]
              rw [this]; rfl
            unfold appP at h
            split at h
            · rename_i new hnew
              have hlx : ∀ {Φ : Fz} {g : Gh} {T : Tr Value} {H : Hp}, RS Φ g e os T H → lenV (evO T x) = some new.length ∧ ∃ nv, NvR Φ g k new nv ∧ firstL H eb.size new.length (evO T x) = some nv := fun {Φ g T H} R => by
                have hr := opnd_rep R.tm hx
                rw [hx2] at hr
                obtain ⟨q1, nv, q2, q3⟩ := listOf_sim R.hs hq hnew hr
                exact ⟨q1, nv, q2, q3 H (fun _ _ => rfl)⟩
              have nilcase : ∀ (Φ : Fz) (g : Gh) (T : Tr Value) (H : Hp), RS Φ g e os T H → evO T s = .slice none 0 0 → okAp eb.bytes new.length = true →
                  ∃ w H', OpR Φ g (leansOn e (.call c) v) (cOp cx (.call c)) T H w H' ∧ ((new = [] ∧ w = .slice none 0 0 ∧ H' = H) ∨ ∃ nv z, NvR Φ g k new nv ∧ z.z = eb.size ∧ w = .slice (some ⟨H.n, 0, none⟩) new.length new.length ∧ H' = ⟨Nat.succ H.n, H.b.put H.n (.cells (Tr.ofL nv) nv.length z false false)⟩) := fun Φ g T H R hu hok => by
                obtain ⟨q1, nv, q2, q3⟩ := hlx R
                rw [hcl]
                cases new with
                | nil =>
                  refine ⟨.slice none 0 0, H, .eff ?_, .inl ⟨rfl, rfl, rfl⟩⟩
                  rw [hu]
                  unfold appV
                  rw [q1]
                  dsimp only
                  rw [q3]
                  rfl
                | cons y ys =>
                  refine ⟨_, _, .eff ?_, .inr ⟨nv, ⟨eb.size, elE H el false none⟩, q2, rfl, rfl, rfl⟩⟩
                  rw [hu]
                  unfold appV
                  rw [q1]
                  dsimp only
                  rw [q3]
                  dsimp only
                  rw [show Nat.ble (Nat.add 0 (y :: ys).length) 0 = false from by show Nat.ble (0 + (ys.length + 1)) 0 = false; rw [Nat.zero_add]; rfl]
                  have := appGrow_ok (H := H) (el := el) (c := k) (size := eb.size) (bytes := eb.bytes) (n := 0) (m := (y :: ys).length) (sCap := 0) (base := none) (s := .slice none 0 0) (old := []) (nv := nv) (room := false) hq (by rw [Nat.zero_add]; exact hok) rfl rfl
                  rw [Nat.zero_add, List.nil_append] at this
                  exact this
              split at h
              · simp only [PR.ok.injEq] at h
                obtain ⟨hok, rfl, rfl, rfl⟩ := h
                intro Φ g T H R
                have hr := opnd_rep R.tm hs
                rw [hs2] at hr
                generalize hu : evO T s = us at hr
                cases hr
                obtain ⟨w, H', m1, m2⟩ := nilcase Φ g T H R hu hok
                rcases m2 with ⟨rfl, rfl, rfl⟩ | ⟨nv, z, m2, m3, rfl, rfl⟩
                · obtain ⟨s1, s2⟩ := R.hs.new (x := .arr k []) 0 0 0 (Dat.sz k) true (Nat.le_refl _) (fun _ _ => rfl) (fun h => by cases h) ⟨if_pos rfl, if_pos rfl, .inl ⟨if_pos rfl, rfl⟩⟩
                  exact ⟨_, _, Φ, _, (by rw [hcl] at m1 ⊢; exact m1.eff_mono), .loc0 (by rw [← R.hs.n]; exact Nat.lt_succ_self _) (by rw [← R.hs.n]; exact if_pos rfl), s1, s2⟩
                · obtain ⟨s1, s2⟩ := R.hs.newArr m2 (At.ofL nv) (n := nv.length) (cp := new.length) (z := z) (t := false) (by rw [m3, hq]; simp) (Nat.le_refl _) (by rw [m2.len]; exact Nat.le_refl _)
                  exact ⟨_, _, Φ, _, (by rw [hcl] at m1 ⊢; exact m1.eff_mono), rep_loc_new g Φ R.hs.n.symm, s1, s2⟩
              · rename_i a
                split at h
                · rename_i d l hxa
                  split at h
                  · rename_i hd
                    subst hd
                    simp only [PR.ok.injEq] at h
                    obtain ⟨hok, rfl, rfl, rfl⟩ := h
                    intro Φ g T H R
                    have hr := opnd_rep R.tm hs
                    rw [hs2] at hr
                    obtain ⟨q1, nv, q2, q3⟩ := hlx R
                    have hob := R.hs.ob a _ (nth_some hxa)
                    generalize hu : evO T s = us at hr
                    cases hr with
                    | loc0 ha hv =>
                      obtain ⟨o1, o2, o3⟩ := hob
                      rcases o3 with ⟨_, rfl⟩ | ⟨o3, _⟩
                      · have hok' : okAp eb.bytes new.length = true := by have : okAp eb.bytes (0 + new.length) = true := hok; rw [Nat.zero_add] at this; exact this
                        obtain ⟨w, H', m1, m2⟩ := nilcase Φ g T H R hu hok'
                        rcases m2 with ⟨rfl, rfl, rfl⟩ | ⟨nv, z, m2, m3, rfl, rfl⟩
                        · obtain ⟨s1, s2⟩ := R.hs.app (y := .arr d ([] ++ [])) (nth_some hxa) trivial (fun l e => by cases e) (bk := 0) (cp := 0) (ln := 0) (es := Dat.sz d) (vr := true) (fun h => by cases h) (Nat.le_refl _) (fun _ _ _ => rfl) ⟨by rw [List.nil_append]; exact if_pos rfl, if_pos rfl, .inl ⟨if_pos rfl, rfl⟩⟩
                          exact ⟨_, _, Φ, _, (by rw [hcl] at m1 ⊢; exact m1.eff_mono), .loc0 (by rw [← R.hs.n]; exact Nat.lt_succ_self _) (by rw [← R.hs.n]; exact if_pos rfl), s1, s2⟩
                        · have hb : (g.push H.n new.length new.length (Dat.sz d) false).blk g.n = H.n := if_pos rfl
                          have hcp : (g.push H.n new.length new.length (Dat.sz d) false).cap g.n = new.length := if_pos rfl
                          obtain ⟨s1, s2⟩ := R.hs.app (y := .arr d ([] ++ new)) (nth_some hxa) trivial (fun l e => by cases e) (bk := H.n) (cp := new.length) (ln := new.length) (es := Dat.sz d) (vr := false) (H' := ⟨Nat.succ H.n, H.b.put H.n (.cells (Tr.ofL nv) nv.length z false false)⟩) (fun _ => .inr (Nat.le_refl _)) (Nat.le_succ _) (fun b hb _ => Tr.get_put_ne _ _ (by omega))
                            ⟨by rw [List.nil_append]; exact if_pos rfl, if_pos rfl, .inr ⟨if_pos rfl, by rw [hb]; exact Nat.lt_succ_self _, by rw [hb]; exact R.hs.phi_new (Nat.le_refl _), by rw [hcp]; exact Nat.le_refl _, Tr.ofL nv, nv.length, z, false, by rw [hb]; exact Tr.get_put_eq _ _ _, by rw [m3, hq]; simp, by rw [hcp, m2.len]; exact Nat.le_refl _, (m2.mono (FLe.refl _) (g.push_le _ _ _ _ _)).arr (At.ofL nv)⟩⟩
                          exact ⟨_, _, Φ, _, (by rw [hcl] at m1 ⊢; exact m1.eff_mono), rep_loc_new g Φ R.hs.n.symm, s1, s2⟩
                      · rw [hv] at o3; cases o3
                    | loc ha hv =>
                      obtain ⟨o1, o2, o3⟩ := hob
                      rcases o3 with ⟨o3, _⟩ | ⟨_, o3, o4, o5, cs, n, z, t', o6, o7, o8, o9⟩
                      · rw [hv] at o3; cases o3
                      · have hlive : ∃ y : PObj, os[a]? = some y ∧ (g.vir a = false → y.live) := ⟨_, nth_some hxa, fun _ => trivial⟩
                        cases hroom : Nat.ble (Nat.add (g.len a) new.length) (g.cap a) with
                        | true =>
                          have hfit : g.len a + new.length ≤ g.cap a := Nat.le_of_ble_eq_true hroom
                          have hmul := Nat.mul_le_mul_right (Dat.sz d) hfit
                          rw [Nat.add_mul] at hmul
                          have hput : Nat.add 0 (Nat.mul (g.len a) eb.size) = l.length * Dat.sz d := by show 0 + g.len a * eb.size = _; rw [← hq, o1]; omega
                          have hpc : putCells H (g.blk a) (Nat.add 0 (Nat.mul (g.len a) eb.size)) nv = some ⟨H.n, H.b.put (g.blk a) (.cells (Tr.putL nv (l.length * Dat.sz d) cs) n z t' false)⟩ := by
                            rw [hput]
                            unfold putCells
                            rw [o6]
                            dsimp only
                            rw [show Nat.ble (Nat.add (l.length * Dat.sz d) nv.length) n = true from Nat.ble_eq_true_of_le (by show l.length * Dat.sz d + nv.length ≤ n; rw [q2.len, ← o1]; omega)]
                            rfl
                          have hb : (g.push (g.blk a) (g.cap a) (l ++ new).length (Dat.sz d) false).blk g.n = g.blk a := if_pos rfl
                          have hcp : (g.push (g.blk a) (g.cap a) (l ++ new).length (Dat.sz d) false).cap g.n = g.cap a := if_pos rfl
                          have hlen : g.len a + new.length = (l ++ new).length := by rw [List.length_append, o1]
                          obtain ⟨s1, s2⟩ := R.hs.app (y := .arr d (l ++ new)) (nth_some hxa) trivial (fun l e => by cases e) (bk := g.blk a) (cp := g.cap a) (ln := (l ++ new).length) (es := Dat.sz d) (vr := false) (H' := ⟨H.n, H.b.put (g.blk a) (.cells (Tr.putL nv (l.length * Dat.sz d) cs) n z t' false)⟩) (fun _ => .inl ⟨hv, rfl⟩) (Nat.le_refl _) (fun b _ hb => Tr.get_put_ne _ _ (hb hv))
                            ⟨if_pos rfl, if_pos rfl, .inr ⟨if_pos rfl, by rw [hb]; exact o3, by rw [hb]; exact o4, by rw [hcp]; omega, _, n, z, t', by rw [hb]; exact Tr.get_put_eq _ _ _, o7, by rw [hcp]; exact o8, app_arr (o9.mono (FLe.refl _) (g.push_le _ _ _ _ _)) (q2.mono (FLe.refl _) (g.push_le _ _ _ _ _))⟩⟩
                          refine ⟨.slice (some ⟨g.blk a, 0, none⟩) (l ++ new).length (g.cap a), _, Φ, _, ?_, rep_loc_new g Φ R.hs.n.symm, s1, s2⟩
                          rw [hcl]
                          refine .eff ?_
                          rw [hu]
                          unfold appV
                          rw [q1]
                          dsimp only
                          rw [q3]
                          dsimp only
                          rw [hroom]
                          show appRoom H eb.size (g.len a) (g.cap a) new.length (some ⟨g.blk a, 0, none⟩) nv = _
                          unfold appRoom
                          dsimp only
                          rw [hpc]
                          dsimp only
                          rw [show Nat.add (g.len a) new.length = (l ++ new).length from hlen]
                        | false =>
                          obtain ⟨ov, w1, w2⟩ := o9.nv
                          have hold : firstL H eb.size (g.len a) (.slice (some ⟨g.blk a, 0, none⟩) (g.len a) (g.cap a)) = some ov := by
                            show (match H.b.get (g.blk a) with | some (.cells c _ _ _ _) => c.getL (Nat.mul (g.len a) eb.size) 0 | _ => none) = some ov
                            rw [o6]
                            dsimp only
                            have := w2.getL
                            rw [w1.len, hq, ← o1] at this
                            exact this
                          obtain ⟨room, hroom2⟩ : ∃ room, mayRoom H eb.size (g.cap a) (some ⟨g.blk a, 0, none⟩) = some room := by
                            unfold mayRoom
                            dsimp only
                            rw [o6]
                            dsimp only
                            cases t' with
                            | true => exact ⟨_, rfl⟩
                            | false => rw [← hq, show Nat.beq z.z (Dat.sz d) = true by simpa using o7]; exact ⟨_, rfl⟩
                          have hlen : g.len a + new.length = (l ++ new).length := by rw [List.length_append, o1]
                          have hok' : okAp eb.bytes (g.len a + new.length) = true := by rw [o1]; exact hok
                          have hgrow := appGrow_ok (H := H) (el := el) (c := d) (size := eb.size) (bytes := eb.bytes) (n := g.len a) (m := new.length) (sCap := g.cap a) (base := some ⟨g.blk a, 0, none⟩) (s := .slice (some ⟨g.blk a, 0, none⟩) (g.len a) (g.cap a)) (old := ov) (nv := nv) (room := room) hq hok' hold hroom2
                          have hnv := w1.append q2
                          have hb : (g.push H.n (l ++ new).length (l ++ new).length (Dat.sz d) false).blk g.n = H.n := if_pos rfl
                          have hcp : (g.push H.n (l ++ new).length (l ++ new).length (Dat.sz d) false).cap g.n = (l ++ new).length := if_pos rfl
                          have hother : ∀ b, b ≠ g.blk a → b ≠ H.n → ((dropB H.b room (some ⟨g.blk a, 0, none⟩)).put H.n (.cells (Tr.ofL (ov ++ nv)) (ov ++ nv).length ⟨eb.size, elE H el room (some ⟨g.blk a, 0, none⟩)⟩ false false)).get b = H.b.get b := fun b hb1 hb2 => by
                            rw [Tr.get_put_ne _ _ hb2]
                            cases room with
                            | true => show (H.b.del (g.blk a)).get b = _; rw [Tr.get_del, if_neg hb1]
                            | false => rfl
                          obtain ⟨s1, s2⟩ := R.hs.app (y := .arr d (l ++ new)) (nth_some hxa) trivial (fun l e => by cases e) (bk := H.n) (cp := (l ++ new).length) (ln := (l ++ new).length) (es := Dat.sz d) (vr := false) (H' := ⟨Nat.succ H.n, (dropB H.b room (some ⟨g.blk a, 0, none⟩)).put H.n (.cells (Tr.ofL (ov ++ nv)) (ov ++ nv).length ⟨eb.size, elE H el room (some ⟨g.blk a, 0, none⟩)⟩ false false)⟩) (fun _ => .inr (Nat.le_refl _)) (Nat.le_succ _) (fun b hb1 hb2 => hother b (hb2 hv) (by omega))
                            ⟨if_pos rfl, if_pos rfl, .inr ⟨if_pos rfl, by rw [hb]; exact Nat.lt_succ_self _, by rw [hb]; exact R.hs.phi_new (Nat.le_refl _), by rw [hcp]; exact Nat.le_refl _, Tr.ofL (ov ++ nv), (ov ++ nv).length, ⟨eb.size, elE H el room (some ⟨g.blk a, 0, none⟩)⟩, false, by rw [hb]; exact Tr.get_put_eq _ _ _, by simp [hq], by rw [hcp, hnv.len]; exact Nat.le_refl _, (hnv.mono (FLe.refl _) (g.push_le _ _ _ _ _)).arr (At.ofL _)⟩⟩
                          refine ⟨.slice (some ⟨H.n, 0, none⟩) (l ++ new).length (l ++ new).length, _, Φ, _, ?_, rep_loc_new g Φ R.hs.n.symm, s1, s2⟩
                          rw [hcl]
                          refine .eff ?_
                          rw [hu]
                          unfold appV
                          rw [q1]
                          dsimp only
                          rw [q3]
                          dsimp only
                          rw [hroom]
                          show appGrow H el eb.size eb.bytes (g.len a) (g.cap a) new.length (some ⟨g.blk a, 0, none⟩) (.slice (some ⟨g.blk a, 0, none⟩) (g.len a) (g.cap a)) nv = _
                          rw [hgrow, hlen]
                  · cases h
                · cases h
              · cases h
            · cases h
        · cases h
      · cases h
    · cases h
  · cases h
end Go.Pv
namespace Go.Pv
open Go Go.EvM
set_option linter.unusedVariables false
set_option linter.unusedSectionVars false
variable [Dat] {cx : Cx} {tb : TypeId → Option TB} {e : PEnv} {os os' : List PObj} {Φ : Fz} {g : Gh} {T : Tr Value} {H : Hp} {v : V} {tt : List Nat}
theorem byte_sz : Dat.sz Dat.byte = 1 := by
  have h1 := Dat.len Dat.byte (Dat.ofByte 0)
  rw [Dat.byteF] at h1
  exact h1.symm
theorem nv_bytes {l : List (Dat.S Dat.byte)} {nv : List Value} (h : NvR Φ g Dat.byte l nv) : nv = l.map fun x => .int .u8 (Dat.byteI x) := by
  apply List.ext_getElem?
  intro i
  have hl := h.len
  rw [byte_sz, Nat.mul_one] at hl
  by_cases hi : i < l.length
  · have hx := List.getElem?_eq_getElem hi
    obtain ⟨vs, h1, h2⟩ := h.at_ i _ hx
    rw [Dat.byteF] at h1
    cases h1 with
    | cons h1 ht => cases ht; cases h1
                    have := h2 0 _ rfl
                    rw [byte_sz, Nat.mul_one, Nat.add_zero] at this
                    rw [this, List.getElem?_map, hx]; rfl
  · rw [List.getElem?_eq_none (by omega), List.getElem?_eq_none (by rw [List.length_map]; omega)]
theorem bytesOf_map : ∀ l : List (Dat.S Dat.byte), bytesOf (l.map fun x => .int .u8 (Dat.byteI x)) = some (strOf l)
  | [] => rfl
  | x :: l => by
    show (match bytesOf (l.map fun x => .int .u8 (Dat.byteI x)) with | some r => some (UInt8.ofNat (Dat.byteI x).toNat :: r) | none => none) = _
    rw [bytesOf_map l]; rfl
theorem bytesP_nv (l : List UInt8) : NvR Φ g Dat.byte (bytesP l) (l.map fun b => .int .u8 (.ofNat b.toNat)) := by
  induction l with
  | nil => exact .nil _
  | cons b l ih =>
    have : Reps Φ g (Dat.fld Dat.byte (Dat.ofByte (.ofNat b.toNat))) [.int .u8 (.ofNat b.toNat)] := by
      rw [Dat.byteF, Dat.byteO]; exact .cons (.int _ _) .nil
    exact ih.cons this (fun v hv => by simp at hv; subst hv; rfl)
theorem listOf_shape {c : Nat} {p : V} {u : Value} {l : List (Dat.S c)} (h : listOf c os p = some l) (hr : Rep Φ g p u) : u = .slice none 0 0 ∨ ∃ b off n cap, u = .slice (some ⟨b, off, none⟩) n cap := by
  unfold listOf at h
  split at h
  · cases hr with
    | sln => exact .inl rfl
    | slb => exact .inr ⟨_, _, _, _, rfl⟩
  · cases hr with
    | loc0 => exact .inl rfl
    | loc => exact .inr ⟨_, _, _, _, rfl⟩
  · cases hr; exact .inl rfl
  · cases h
theorem good_conv (C : PvOk cx tb) {s d : TypeId} {x : Operand} (hx : okP x = true) (h : pop tb os e (.convert s d x) = .ok true v os' tt) : Good cx e os (.convert s d x) v os' tt := by
  have h : pConv tb os s d (evP e x) = .ok true v os' tt := h
  unfold pConv at h
  split at h
  · rename_i sb db hs hd
    obtain ⟨si, s1, s2⟩ := C.tb s sb hs
    obtain ⟨di, d1, d2⟩ := C.tb d db hd
    have ks := s2.kind
    have kd := d2.kind
    split at h
    · rename_i k0 k hks hkd
      rw [hks] at ks
      rw [hkd] at kd
      split at h
      · rename_i k1 n hxx
        simp only [PR.ok.injEq] at h
        obtain ⟨_, rfl, rfl, rfl⟩ := h
        refine Good.same fun Φ g T H R => ?_
        have hr := opnd_rep R.tm hx
        rw [hxx] at hr
        generalize hu : evO T x = u at hr
        cases hr
        refine ⟨_, ?_, .int _ _⟩
        show OpR Φ g _ (cConv cx s d x) T H _ H
        unfold cConv
        rw [s1, d1]; dsimp only
        rw [ks, kd]; dsimp only
        exact .pure (by rw [hu]; rfl)
      · cases h
    · rename_i hks hkd
      rw [hks] at ks
      rw [hkd] at kd
      split at h
      · rename_i l hxx
        simp only [PR.ok.injEq] at h
        obtain ⟨_, rfl, rfl, rfl⟩ := h
        refine Good.same fun Φ g T H R => ?_
        have hr := opnd_rep R.tm hx
        rw [hxx] at hr
        generalize hu : evO T x = u at hr
        cases hr
        refine ⟨_, ?_, .str _⟩
        show OpR Φ g _ (cConv cx s d x) T H _ H
        unfold cConv
        rw [s1, d1]; dsimp only
        rw [ks, kd]; dsimp only
        exact .pure (by rw [hu])
      · cases h
    · rename_i el hks hkd
      rw [hks] at ks
      rw [hkd] at kd
      split at h
      · rename_i eb heb
        obtain ⟨ei, e1, e2⟩ := C.tb el eb heb
        have ke := e2.kind
        split at h
        · rename_i hke
          rw [hke] at ke
          split at h
          · rename_i l hl
            simp only [PR.ok.injEq] at h
            obtain ⟨_, rfl, rfl, rfl⟩ := h
            refine Good.same fun Φ g T H R => ?_
            have hr := opnd_rep R.tm hx
            obtain ⟨q1, nv, q2, q3⟩ := listOf_sim R.hs byte_sz hl hr
            have hnv := nv_bytes q2
            refine ⟨.string ⟨⟨strOf l⟩⟩, ?_, .str _⟩
            show OpR Φ g _ (cConv cx s d x) T H _ H
            unfold cConv
            rw [s1, d1]; dsimp only
            rw [ks, kd]; dsimp only
            rw [e1]; dsimp only
            rw [ke]; dsimp only
            have key : ∀ H2 : Hp, firstL H2 1 l.length (evO T x) = some nv → (match evO T x with
                | .slice none _ _ => some (.string .empty)
                | .slice (some ⟨b, off, none⟩) len _ => (match H2.b.get b with
                  | some (.cells c _ _ _ _) => (match c.getL len off with
                    | some l => (match bytesOf l with | some r => some (.string ⟨⟨r⟩⟩) | none => none)
                    | none => none)
                  | _ => none)
                | _ => none) = some (Value.string ⟨⟨strOf l⟩⟩) := fun H2 hf => by
              rcases listOf_shape hl hr with hu | ⟨b, off, n, cp, hu⟩
              · rw [hu] at hf ⊢
                have hf : some ([] : List Value) = some nv := hf
                cases hf
                have : l = [] := by
                  have := q2.len
                  rw [byte_sz, Nat.mul_one] at this
                  exact List.eq_nil_of_length_eq_zero this.symm
                subst this; rfl
              · rw [hu] at q1 hf ⊢
                have q1 : some n = some l.length := q1
                cases q1
                have hf : (match H2.b.get b with | some (.cells c _ _ _ _) => c.getL (Nat.mul l.length 1) off | _ => none) = some nv := hf
                dsimp only
                split at hf
                · rename_i hb
                  rw [show Nat.mul l.length 1 = l.length from Nat.mul_one _] at hf
                  rw [hf]
                  dsimp only
                  rw [hnv, bytesOf_map]
                · cases hf
            refine .look (key H (q3 H fun _ _ => rfl)) fun H2 hH => key H2 (q3 H2 fun b hb => hH b ?_)
            rcases hb with hb | ⟨a, ha, hv, hb⟩
            · exact .inl hb
            · exact .inr ⟨a, by show a ∈ (match evP e x with | .loc a => [a] | _ => []); rw [ha]; simp, hv, hb⟩
          · cases h
        · cases h
      · cases h
    · rename_i el hks hkd
      rw [hks] at ks
      rw [hkd] at kd
      split at h
      · rename_i eb heb
        obtain ⟨ei, e1, e2⟩ := C.tb el eb heb
        have ke := e2.kind
        split at h
        · rename_i l hke hxx
          rw [hke] at ke
          simp only [PR.ok.injEq] at h
          obtain ⟨hlen, rfl, rfl, rfl⟩ := h
          have hlen := Nat.le_of_ble_eq_true hlen
          intro Φ g T H R
          have hr := opnd_rep R.tm hx
          rw [hxx] at hr
          generalize hu : evO T x = u at hr
          cases hr
          have hbl : (bytesP l).length = l.length := by simp [bytesP]
          have hml : (l.map fun b => Value.int .u8 (.ofNat b.toNat)).length = l.length := by simp
          obtain ⟨k1, k2⟩ := R.hs.newArr (bytesP_nv l) (At.ofL _) (n := (l.map fun b => Value.int .u8 (.ofNat b.toNat)).length) (cp := l.length) (z := ⟨1, none⟩) (t := false) (by rw [byte_sz]; rfl) (by omega) (by rw [byte_sz, hml]; omega)
          rw [hbl] at k1 k2
          refine ⟨.slice (some ⟨H.n, 0, none⟩) l.length l.length, _, Φ, _, ?_, rep_loc_new g Φ R.hs.n.symm, k1, k2⟩
          show OpR Φ _ _ (cConv cx s d x) T H _ _
          unfold cConv
          rw [s1, d1]; dsimp only
          rw [ks, kd]; dsimp only
          rw [e1]; dsimp only
          rw [ke]; dsimp only
          refine @OpR.make Φ (g.push H.n l.length l.length (Dat.sz Dat.byte) false) _ _ T H ⟨mkCells (l.map fun b => .int .u8 (.ofNat b.toNat)) ⟨1, none⟩ false, fun r => .slice (some ⟨r, 0, none⟩) l.length l.length⟩ ?_ ⟨os.length, (List.mem_cons_self : os.length ∈ [os.length]), by rw [← R.hs.n]; exact if_pos rfl, by rw [← R.hs.n]; exact if_pos rfl⟩ (eqOb_refl (okT_ofL (by omega) (fun u hu => by
            simp at hu; obtain ⟨b, _, rfl⟩ := hu; rfl)))
          rw [hu]
        · cases h
      · cases h
    · cases h
  · cases h
theorem good_minmax (C : PvOk cx tb) {c : Call} {b : Builtin} (hb : b = .min ∨ b = .max) (hc : c.callee = .builtin b) (ha : c.args.toList.all okP = true) (h : pBuiltin tb os b (c.args.toList.map (evP e)) c.argTypes.toList = .ok true v os' tt) : Good cx e os (.call c) v os' tt := by
  have core : ∀ (hi : Bool), (match (c.args.toList.map (evP e)) with
      | [.int k a, .int k' b] => bif decide (k = k') then PR.ok true (.int k (bif (match hi with | false => ltI b a | true => ltI a b) then b else a)) os [] else .no
      | _ => .no) = .ok true v os' tt → (∀ x y, c.args.toList = [x, y] → cOp cx (.call c) = .pure fun ρ => match ρ x, ρ y with | .int k a, .int _ b => some (.int k (bif (match hi with | false => ltI b a | true => ltI a b) then b else a)) | u, v => minS cx.facts hi u v) → Good cx e os (.call c) v os' tt := fun hi h hcl => by
    split at h
    · rename_i k a k' b hargs
      obtain ⟨x, y, hx1, hx2, hy2⟩ : ∃ x y, c.args.toList = [x, y] ∧ evP e x = .int k a ∧ evP e y = .int k' b := by
        cases hl : c.args.toList with
        | nil => rw [hl] at hargs; simp at hargs
        | cons s r => cases r with
          | nil => rw [hl] at hargs; simp at hargs
          | cons x r =>
            rw [hl] at hargs
            simp only [List.map_cons, List.cons.injEq, List.map_eq_nil_iff] at hargs
            exact ⟨s, x, by rw [hargs.2.2], hargs.1, hargs.2.1⟩
      have hx : okP x = true := by rw [hx1] at ha; simp at ha; exact ha.1
      have hy : okP y = true := by rw [hx1] at ha; simp at ha; exact ha.2
      cases hd : decide (k = k') with
      | false => rw [hd] at h; cases h
      | true =>
        rw [hd] at h
        simp only [cond_true, PR.ok.injEq] at h
        obtain ⟨_, rfl, rfl, rfl⟩ := h
        refine Good.same fun Φ g T H R => ?_
        have hr := opnd_rep R.tm hx
        have hr2 := opnd_rep R.tm hy
        rw [hx2] at hr
        rw [hy2] at hr2
        rw [hcl x y hx1]
        generalize hu : evO T x = u at hr
        generalize hu2 : evO T y = u2 at hr2
        cases hr; cases hr2
        exact ⟨_, .pure (by rw [hu, hu2]), .int _ _⟩
    · cases h
  rcases hb with rfl | rfl
  · refine core false (by unfold pBuiltin at h; exact h) fun x y hx => ?_
    show cCall cx c = _
    unfold cCall
    rw [hc]; dsimp only
    unfold cBuiltin
    dsimp only
    rw [hx]
    rfl
  · refine core true (by unfold pBuiltin at h; exact h) fun x y hx => ?_
    show cCall cx c = _
    unfold cCall
    rw [hc]; dsimp only
    unfold cBuiltin
    dsimp only
    rw [hx]
    rfl
theorem pop_sim (C : PvOk cx tb) {op : Op} (hx : op.operands.toList.all okP = true) (h : pop tb os e op = .ok true v os' tt) : Good cx e os op v os' tt := by
  cases op with
  | move x =>
    have h : PR.ok true (evP e x) os [] = .ok true v os' tt := h
    cases h
    exact good_move (by simpa [Op.operands] using hx)
  | assign x =>
    have h : PR.ok true (evP e x) os [] = .ok true v os' tt := h
    cases h
    exact good_assign (by simpa [Op.operands] using hx)
  | alloc t => exact good_alloc C h
  | box t x => exact good_box (by simpa [Op.operands] using hx) h
  | build t ps => exact good_build C (parts_ok hx) h
  | buildSlice t n ps => exact good_buildSlice C (parts_ok2 hx) h
  | load t a => exact good_load C (by simpa [Op.operands] using hx) h
  | store t a x => have hx : okP a = true ∧ okP x = true := by simpa [Op.operands] using hx
                   exact good_store C hx.1 hx.2 h
  | nilCheck x => exact good_nilCheck (by simpa [Op.operands] using hx) h
  | binOp o t x y u => have hx : okP x = true ∧ okP y = true := by simpa [Op.operands] using hx
                       exact good_bin C hx.1 hx.2 h
  | unOp o t x => exact good_un C (by simpa [Op.operands] using hx) h
  | convert s d x => exact good_conv C (by simpa [Op.operands] using hx) h
  | makeSlice t l c => have hx : okP l = true ∧ okP c = true := by simpa [Op.operands] using hx
                       exact good_makeSlice C hx.1 hx.2 h
  | slice t x lo hi mx =>
    cases mx with
    | none =>
      have hx : (okP x = true ∧ lo.toArray.toList.all okP = true) ∧ hi.toArray.toList.all okP = true := by
        simp only [Op.operands, Array.toList_append, List.all_append, Bool.and_eq_true] at hx
        exact ⟨⟨by simpa using hx.1.1.1, hx.1.1.2⟩, hx.1.2⟩
      exact good_slice C hx.1.1 hx.1.2 hx.2 h
    | some m => cases h
  | fieldAddr t x f => exact good_fieldAddr C (by simpa [Op.operands] using hx) h
  | field t x f => exact good_field C (by simpa [Op.operands] using hx) h
  | indexAddr t x i => have hx : okP x = true ∧ okP i = true := by simpa [Op.operands] using hx
                       exact good_indexAddr C hx.1 hx.2 h
  | index t x i => have hx : okP x = true ∧ okP i = true := by simpa [Op.operands] using hx
                   exact good_index C hx.1 hx.2 h
  | extract x i => exact good_extract (by simpa [Op.operands] using hx) h
  | call c =>
    have h : (match c.callee with
      | .builtin b => pBuiltin tb os b (c.args.toList.map (evP e)) c.argTypes.toList
      | _ => .no) = PR.ok true v os' tt := h
    have ha : c.args.toList.all okP = true := by
      have hx : c.operands.toList.all okP = true := hx
      simp only [Call.operands, Array.toList_append, List.all_append, Bool.and_eq_true] at hx
      exact hx.2
    split at h
    · rename_i b hb
      cases b with
      | len => exact good_len C hb ha h
      | append => exact good_append C hb ha h
      | min => exact good_minmax C (.inl rfl) hb ha h
      | max => exact good_minmax C (.inr rfl) hb ha h
      | _ => cases h
    · cases h
  | _ => cases h
end Go.Pv
namespace Go.Pv
open Go Go.EvM
set_option linter.unusedVariables false
set_option linter.unusedSectionVars false
variable [Dat] {cx : Cx} {tb : TypeId → Option TB} {R : Type}
def CallOK (cx : Cx) (f : FuncId) (vs : List V) (os : List PObj) (v : V) (os' : List PObj) : Prop :=
  ∃ N, ∀ m, N ≤ m → ∀ (Φ : Fz) (g : Gh) (H : Hp) (ws : List Value), HS Φ g os H → Reps Φ g vs ws →
    ∃ w H' Φ' g', evFun cx m f ws H = .ok w H' ∧ Rep Φ' g' v w ∧ HS Φ' g' os' H' ∧ Nx Φ g os H Φ' g' os' H' (ptrsOf vs)
def SemOK (cx : Cx) (f : FuncId) (G : PSem R) : Prop := ∀ vs os κ r, G vs os κ = some r → ∃ v os', κ v os' = some r ∧ CallOK cx f vs os v os'
theorem getT_bool {T : Tr Value} {t : Nat} {b : Bool} (h : slotV T t = .bool b) : T.get t = some (.bool b) := by
  unfold slotV at h
  split at h
  · rename_i v hv; rw [hv, h]
  · cases h
def Knows (e e' : PEnv) : Prop := ∀ (Φ : Fz) (g : Gh) (T : Tr Value), (∀ t, Rep Φ g (e t) (slotV T t)) → ∀ t, Rep Φ g (e' t) (slotV T t)
theorem Knows.refl (e : PEnv) : Knows e e := fun _ _ _ h => h
theorem Knows.rs {e e' : PEnv} (h : Knows e e') {Φ : Fz} {g : Gh} {os : List PObj} {T : Tr Value} {H : Hp} (R : RS Φ g e os T H) : RS Φ g e' os T H := ⟨h Φ g T R.tm, R.hs⟩
theorem choose_sim {e : PEnv} {c : Operand} {k : Bool → PEnv → Option R} {r : R} (h : choose e c k = some r) : ∃ b e', k b e' = some r ∧ evP e c = .bool b ∧ Knows e e' := by
  unfold choose at h
  split at h
  · rename_i b hb
    split at h
    · rename_i t
      cases b with
      | true =>
        refine ⟨true, _, h, hb, fun Φ g T hR s => ?_⟩
        show Rep Φ g (bif Nat.beq s t then .bool true else e s) (slotV T s)
        cases hst : Nat.beq s t with
        | false => exact hR s
        | true => obtain rfl := Nat.eq_of_beq_eq_true hst; have := hR s; rw [show e s = .bool true from hb] at this; exact this
      | false =>
        refine ⟨false, _, h, hb, fun Φ g T hR s => ?_⟩
        show Rep Φ g (bif Nat.beq s t then .bool false else e s) (slotV T s)
        cases hst : Nat.beq s t with
        | false => exact hR s
        | true => obtain rfl := Nat.eq_of_beq_eq_true hst; have := hR s; rw [show e s = .bool false from hb] at this; exact this
    · cases b with
      | true => exact ⟨true, e, h, hb, .refl _⟩
      | false => exact ⟨false, e, h, hb, .refl _⟩
  · cases h
def StepTo (cx : Cx) (n : Nat) (c : Cls) (d : Option Tmp) (e : PEnv) (os : List PObj) (e' : PEnv) (os' : List PObj) (t : List Nat) : Prop :=
  ∃ N, ∀ m, N ≤ m → ∀ (Φ : Fz) (g : Gh) (T : Tr Value) (H : Hp), RS Φ g e os T H →
    ∃ T' H' Φ' g', stepCls (evFun cx m) c d ⟨n, T, [], H⟩ = .ok ⟨n, T', [], H'⟩ ∧ RS Φ' g' e' os' T' H' ∧ Nx Φ g os H Φ' g' os' H' t
noncomputable def putT (T : Tr Value) (d : Option Tmp) (w : Value) : Tr Value := match d with | some d => T.put d w | none => T
theorem RS.put {Φ : Fz} {g : Gh} {e : PEnv} {os : List PObj} {T : Tr Value} {H : Hp} (ht : ∀ t, Rep Φ g (e t) (slotV T t)) (hs : HS Φ g os H) {v : V} {w : Value} (hr : Rep Φ g v w) (d : Option Tmp) : RS Φ g (putD e d v) os (putT T d w) H := by
  cases d with
  | none => exact ⟨ht, hs⟩
  | some d =>
    refine ⟨fun t => ?_, hs⟩
    show Rep Φ g (bif Nat.beq t d then v else e t) (slotV (T.put d w) t)
    rw [slotV_put]
    cases htd : Nat.beq t d with
    | true => rw [if_pos (Nat.eq_of_beq_eq_true htd)]; exact hr
    | false => rw [if_neg (fun e => by rw [e] at htd; simp at htd)]; exact ht t
theorem setD_ok {n : Nat} {T : Tr Value} {H0 H : Hp} {D : List Dfr} {d : Option Tmp} (hd : dstOk n d = true) (v : Value) : (⟨n, T, D, H0⟩ : St).setD d v H = .ok ⟨n, putT T d v, D, H⟩ := by
  cases d with
  | none => rfl
  | some d =>
    show (bif Nat.blt d n then SR.ok ⟨n, T.put d v, D, H⟩ else .no) = _
    rw [show Nat.blt d n = true from hd]; rfl
theorem OpR.res {Φ' : Fz} {g' : Gh} {l : List Nat} {c : Cls} {T : Tr Value} {H H' : Hp} {w : Value} (h : OpR Φ' g' l c T H w H') (call : Caller) : resCls call c (evO T) [] H = .ok w [] H' := by
  cases h with
  | pure h => simp only [resCls, h]
  | look h _ => simp only [resCls, h]
  | make h _ _ => simp only [resCls, h]
  | eff h => simp only [resCls, h]
theorem step_res {n : Nat} {c : Cls} {d : Option Tmp} {T : Tr Value} {H H' : Hp} {w : Value} {call : Caller} (h : resCls call c (evO T) [] H = .ok w [] H') (hd : dstOk n d = true) : stepCls call c d ⟨n, T, [], H⟩ = .ok ⟨n, putT T d w, [], H'⟩ := by
  show (match resCls call c (evO T) [] H with | .ok v d' h => (⟨n, T, d', H⟩ : St).setD d v h | .no => .no) = _
  rw [h]
  exact setD_ok hd w
theorem rep_tm {Φ Φ' : Fz} {g g' : Gh} {e : PEnv} {T : Tr Value} (h : ∀ t, Rep Φ g (e t) (slotV T t)) (hf : FLe Φ Φ') (hg : GLe g g') : ∀ t, Rep Φ' g' (e t) (slotV T t) := fun t => (h t).mono hf hg
theorem frzO_sim {Φ : Fz} {g : Gh} {os os' : List PObj} {H : Hp} {o : Nat} (h : HS Φ g os H) (e : frzO os o = os') : ∃ Φ', HS Φ' g os' H ∧ Nx Φ g os H Φ' g os' H [] := by
  unfold frzO at e
  split at e
  · rename_i l hx
    have hx := nth_some hx
    obtain ⟨hv, h1, h2, c, n, z, t, h3, h4, h5⟩ := h.ob o _ hx
    obtain ⟨vs, m1, m2, m3⟩ := cells_list l 0 (fun j p hp => by rw [Nat.zero_add]; exact h5 j p hp)
    generalize hf : frzL l os = q at e
    obtain ⟨l', os1⟩ := q
    dsimp only at e
    obtain ⟨Φ1, k1, k2, k3⟩ := frzL_sim h m1 hf
    obtain ⟨l1, hx1⟩ := k3.kp o l hx
    obtain ⟨hv1, j1, j2, _⟩ := k1.ob o _ hx1
    obtain ⟨r1, r2⟩ := k1.setO (x' := .cells l') (Φ' := Φ1) (H' := H) hx1 ⟨trivial, hv1⟩ rfl (FLe.refl _) (fun _ _ => rfl) (fun _ _ => rfl) (fun y hy => by rw [j2] at hy; cases hy)
      ⟨hv1, j1, j2, c, n, z, t, h3, by rw [h4, ← m1.length, k2.length], fun j p hp => by
        obtain ⟨v, w1, w2⟩ := k2.get hp
        have := m2 j v w1
        rw [Nat.zero_add] at this
        exact ⟨v, this, w2, m3 v (List.mem_of_getElem? w1)⟩⟩ (fun e => by cases e) (fun _ _ => ⟨_, rfl⟩) [] (fun _ _ => rfl) (fun _ h => by cases h)
    subst e
    exact ⟨Φ1, r1, k3.nil_trans r2 (fun _ h => by cases h)⟩
  · subst e; exact ⟨Φ, h, Nx.refl _ _ _ _⟩
theorem frzA_sim {g : Gh} {H : Hp} : ∀ (vs : List V) {Φ : Fz} {os os' : List PObj}, HS Φ g os H → frzA vs os = os' → ∃ Φ', HS Φ' g os' H ∧ Nx Φ g os H Φ' g os' H []
  | [], Φ, os, os', h, e => by
    have e : os = os' := e
    subst e; exact ⟨Φ, h, Nx.refl _ _ _ _⟩
  | p :: vs, Φ, os, os', h, e => by
    have gen : ∀ {os1}, frzA vs os1 = os' → (∃ Φ1, HS Φ1 g os1 H ∧ Nx Φ g os H Φ1 g os1 H []) → ∃ Φ', HS Φ' g os' H ∧ Nx Φ g os H Φ' g os' H [] := fun {os1} e ⟨Φ1, k1, k2⟩ => by
      obtain ⟨Φ2, r1, r2⟩ := frzA_sim vs k1 e
      exact ⟨Φ2, r1, k2.nil_trans r2 (fun _ h => by cases h)⟩
    cases p with
    | ptr o off => exact gen (os1 := frzO os o) e (frzO_sim h rfl)
    | _ => exact gen (os1 := os) e ⟨Φ, h, Nx.refl _ _ _ _⟩
theorem ptrs_live {Φ : Fz} {g : Gh} {os os' : List PObj} {H : Hp} {Φ' : Fz} {g' : Gh} {H' : Hp} {t : List Nat} (h0 : HS Φ g os H) (hk : Nx Φ g os H Φ' g' os' H' []) (k : ∀ o ∈ t, ∃ x : PObj, os'[o]? = some x ∧ (g'.vir o = false → x.live)) (hl : os'.length = os.length) (ha : ∀ (o : Nat) (x : PObj), os'[o]? = some x → x.live → ∃ y : PObj, os[o]? = some y ∧ y.live) (hg : g' = g) : ∀ o ∈ t, ∃ x : PObj, os[o]? = some x ∧ (g.vir o = false → x.live) := fun o ho => by
  obtain ⟨x, h1, h2⟩ := k o ho
  subst hg
  have hlt : o < os.length := by have := (List.getElem?_eq_some_iff.1 h1).1; omega
  refine ⟨os[o], List.getElem?_eq_getElem hlt, fun hv => ?_⟩
  obtain ⟨y, y1, y2⟩ := ha o x h1 (h2 hv)
  rw [List.getElem?_eq_getElem hlt] at y1
  cases y1; exact y2
def Dies (os os' : List PObj) : Prop := os'.length = os.length ∧ ∀ (o : Nat) (x : PObj), os'[o]? = some x → x.live → ∃ y : PObj, os[o]? = some y ∧ y.live
theorem Dies.refl (os : List PObj) : Dies os os := ⟨rfl, fun o x h l => ⟨x, h, l⟩⟩
theorem Dies.trans {a b c : List PObj} (h : Dies a b) (k : Dies b c) : Dies a c := ⟨k.1.trans h.1, fun o x hx l => by obtain ⟨y, y1, y2⟩ := k.2 o x hx l; exact h.2 o y y1 y2⟩
theorem frz1_dies {p p' : V} {os os' : List PObj} (e : frz1 os p = (p', os')) : Dies os os' := by
  have hs : os' = os ∨ ∃ b c l, os' = os.set b (.frz c l) := by
    unfold frz1 at e
    split at e
    · split at e
      · cases e; exact .inr ⟨_, _, _, rfl⟩
      · cases e; exact .inl rfl
      · cases e; exact .inl rfl
    · cases e; exact .inl rfl
  rcases hs with rfl | ⟨b, c', l', rfl⟩
  · exact .refl _
  · refine ⟨List.length_set, fun o x hx hl => ?_⟩
    rw [List.getElem?_set] at hx
    split at hx
    · split at hx
      · cases hx; exact hl.elim
      · cases hx
    · exact ⟨x, hx, hl⟩
theorem frzL_dies : ∀ {ps ps' : List V} {os os' : List PObj}, frzL ps os = (ps', os') → Dies os os'
  | [], _, _, _, e => by cases e; exact .refl _
  | p :: ps, _, os, _, e => by
    unfold frzL at e
    generalize he : frz1 os p = q at e
    obtain ⟨p', os1⟩ := q
    dsimp only at e
    generalize he2 : frzL ps os1 = q2 at e
    obtain ⟨l', os2⟩ := q2
    cases e
    exact (frz1_dies he).trans (frzL_dies he2)
theorem frzV_dies {p p' : V} {os os' : List PObj} (e : frzV os p = (p', os')) : Dies os os' := by
  unfold frzV at e
  split at e
  · rename_i l
    generalize he : frzL l os = q at e
    obtain ⟨l', os1⟩ := q
    cases e
    exact frzL_dies he
  · rename_i l
    generalize he : frzL l os = q at e
    obtain ⟨l', os1⟩ := q
    cases e
    exact frzL_dies he
  · exact frz1_dies e
theorem frzVL_dies : ∀ {ps ps' : List V} {os os' : List PObj}, frzVL ps os = (ps', os') → Dies os os'
  | [], _, _, _, e => by cases e; exact .refl _
  | p :: ps, _, os, _, e => by
    unfold frzVL at e
    generalize he : frzV os p = q at e
    obtain ⟨p', os1⟩ := q
    dsimp only at e
    generalize he2 : frzVL ps os1 = q2 at e
    obtain ⟨l', os2⟩ := q2
    cases e
    exact (frzV_dies he).trans (frzVL_dies he2)
theorem frzO_dies {os os' : List PObj} {o : Nat} (e : frzO os o = os') : Dies os os' := by
  unfold frzO at e
  split at e
  · rename_i l hx
    have hx := nth_some hx
    generalize hf : frzL l os = q at e
    obtain ⟨l', os1⟩ := q
    dsimp only at e
    subst e
    have h1 := frzL_dies hf
    refine ⟨by rw [List.length_set]; exact h1.1, fun p x hp hl => ?_⟩
    rw [List.getElem?_set] at hp
    split at hp
    · rename_i hpo
      subst hpo
      exact ⟨_, hx, trivial⟩
    · exact h1.2 p x hp hl
  · subst e; exact .refl _
theorem frzA_dies : ∀ (vs : List V) {os os' : List PObj}, frzA vs os = os' → Dies os os'
  | [], os, os', e => by have e : os = os' := e; subst e; exact .refl _
  | p :: vs, os, os', e => by
    cases p with
    | ptr o off => exact (frzO_dies rfl).trans (frzA_dies vs (os := frzO os o) e)
    | _ => exact frzA_dies vs (os := os) e
theorem call_sim {G : FuncId → PSem R} (HG : ∀ f, SemOK cx f (G f)) {n : Nat} {f : Operand} {args : List Operand} {d : Option Tmp} {e : PEnv} {os : List PObj} {k : KT R} {r : R} {gf : FuncId} {a c vs : List V} {os' : List PObj}
    (hd : dstOk n d = true) (hf : okP f = true) (ha : args.all okP = true) (hev : evP e f = .fn gf a c) (hfr : frzVL (a ++ (args.map (evP e) ++ c)) os = (vs, os')) (h : (G gf vs (frzA vs os') fun v os'' => k ⟨putD e d v, os''⟩ (ptrsOf vs)) = some r) :
    ∃ e' os'' t, k ⟨e', os''⟩ t = some r ∧ StepTo cx n (.call f args) d e os e' os'' t := by
  obtain ⟨v, os2, h1, N, h2⟩ := HG gf vs _ _ r h
  refine ⟨_, _, _, h1, N, fun m hm Φ g T H RS0 => ?_⟩
  have hrf := opnd_rep RS0.tm hf
  rw [hev] at hrf
  generalize hu : evO T f = u at hrf
  cases hrf with
  | fn _ q1 q2 q3 q4 q5 q6 =>
    rename_i a' c'
    obtain ⟨Φ1, k1, k2, k3⟩ := frzVL_sim RS0.hs (q1.append ((opnds_rep RS0.tm ha).append q2)) hfr
    obtain ⟨Φ2, r1, r2⟩ := frzA_sim vs k1 rfl
    obtain ⟨w, H', Φ3, g3, s1, s2, s3, s4⟩ := h2 m hm Φ2 g H _ r1 (k2.mono r2.phi (GLe.refl _))
    have hnx : Nx Φ g os H Φ2 g (frzA vs os') H [] := k3.nil_trans r2 (fun _ h => by cases h)
    have hdies := (frzVL_dies hfr).trans (frzA_dies vs (os := os') rfl)
    refine ⟨_, H', Φ3, g3, step_res ?_ hd, RS.put (rep_tm RS0.tm (hnx.phi.trans s4.phi) s4.gle) s3 s2 d, hnx.nil_trans s4 (ptrs_live RS0.hs hnx s4.tl hdies.1 hdies.2 rfl)⟩
    show (match evO T f with
      | .func (.func g) first cap => (match evFun cx m g (first.toList ++ (args.map (evO T) ++ cap.toList)) H with
        | .ok v h => RR.ok v [] h
        | .no => .no)
      | _ => .no) = _
    rw [hu]
    dsimp only
    rw [s1]
theorem dst_ops {n : Nat} {d : Option Tmp} {l : List Operand} (h : (dstOk n d && l.all okP) = true) : dstOk n d = true ∧ l.all okP = true := by
  rw [Bool.and_eq_true] at h; exact h
theorem cls_ok {o : Oper} (h : o.op.operands.toList.all okP = true) : cls cx o = cOp cx o.op := by
  unfold cls
  have : o.op.operands.toList.all okOpnd = true := by
    rw [List.all_eq_true] at h ⊢
    intro x hx
    have := h x hx
    unfold okP at this
    rw [Bool.and_eq_true] at this
    exact this.1
  rw [this]; rfl
theorem pop_step (C : PvOk cx tb) {n : Nat} {o : Oper} {e : PEnv} {os os' : List PObj} {v : V} {t : List Nat} (hd : dstOk n o.dst = true) (ho : o.op.operands.toList.all okP = true) (h : pop tb os e o.op = .ok true v os' t) : StepTo cx n (cls cx o) o.dst e os (putD e o.dst v) os' t := by
  refine ⟨0, fun m _ Φ g T H RS0 => ?_⟩
  obtain ⟨w, H', Φ', g', h1, h2, h3, h4⟩ := pop_sim C ho h Φ g T H RS0
  rw [cls_ok ho]
  exact ⟨_, H', Φ', g', step_res (h1.res _) hd, RS.put (rep_tm RS0.tm h4.phi h4.gle) h3 h2 _, h4⟩
theorem StepTo.know {n : Nat} {c : Cls} {d : Option Tmp} {e e1 : PEnv} {os : List PObj} {e' : PEnv} {os' : List PObj} {t : List Nat} (hk : Knows e e1) (h : StepTo cx n c d e1 os e' os' t) : StepTo cx n c d e os e' os' t := by
  obtain ⟨N, h⟩ := h
  exact ⟨N, fun m hm Φ g T H RS0 => h m hm Φ g T H (hk.rs RS0)⟩
theorem pick_step {n : Nat} {c a b : Operand} {o : Oper} {e e' : PEnv} {os : List PObj} {t : Bool} (ho : o.op = .pick c a b) (hd : dstOk n o.dst = true) (hop : o.op.operands.toList.all okP = true) (hc : evP e c = .bool t) (hk : Knows e e') : StepTo cx n (cls cx o) o.dst e os (putD e' o.dst (evP e' (bif t then a else b))) os [] := by
  refine ⟨0, fun m _ Φ g T H RS0 => ?_⟩
  have R1 := hk.rs RS0
  rw [cls_ok hop]
  rw [ho] at hop
  have hx : okP c = true ∧ okP a = true ∧ okP b = true := by simpa [Op.operands] using hop
  have hr := opnd_rep RS0.tm hx.1
  rw [hc] at hr
  have hab : okP (bif t then a else b) = true := by cases t; exact hx.2.2; exact hx.2.1
  refine ⟨_, H, Φ, g, step_res (w := evO T (bif t then a else b)) ?_ hd, RS.put R1.tm R1.hs (opnd_rep R1.tm hab) _, Nx.refl _ _ _ _⟩
  rw [ho]
  show (match (match evO T c with | .bool t => some (bif t then evO T a else evO T b) | _ => none) with | some v => RR.ok v [] H | none => .no) = _
  generalize hu : evO T c = u at hr
  cases hr
  cases t <;> rfl
theorem step_sim (C : PvOk cx tb) {G : FuncId → PSem R} (HG : ∀ f, SemOK cx f (G f)) {n : Nat} {o : Oper} {k : KT R} {e : PEnv} {os : List PObj} {r : R} (h : pStep tb G n o k ⟨e, os⟩ = some r) :
    ∃ e' os' t, k ⟨e', os'⟩ t = some r ∧ StepTo cx n (cls cx o) o.dst e os e' os' t := by
  unfold pStep at h
  dsimp only at h
  split at h
  · cases h
  · rename_i hq
    obtain ⟨hd, hops⟩ := dst_ops hq
    split at h
    · rename_i c a b ho
      obtain ⟨t, e', h1, h2, h3⟩ := choose_sim h
      exact ⟨_, _, _, h1, pick_step ho hd hops h2 h3⟩
    · rename_i f args ts ho
      split at h
      · rename_i gf a c hev
        generalize hfr : frzVL (a ++ (args.toList.map (evP e) ++ c)) os = q at h
        obtain ⟨vs, os'⟩ := q
        dsimp only at h
        have hcl : cls cx o = .call f args.toList := by rw [cls_ok hops, ho]; rfl
        rw [hcl]
        have hops2 : okP f = true ∧ args.toList.all okP = true := by
          rw [ho] at hops
          have hops : (Call.operands ⟨.value f, args, ts⟩).toList.all okP = true := hops
          simp only [Call.operands, Array.toList_append, List.all_append, Bool.and_eq_true] at hops
          exact ⟨by simpa using hops.1, hops.2⟩
        exact call_sim HG hd hops2.1 hops2.2 hev hfr h
      · cases h
    · split at h
      · rename_i c v os' t hpop
        cases c with
        | false => cases h
        | true => exact ⟨_, _, _, h, pop_step C hd hops hpop⟩
      · cases h
theorem guard_sim {n : Nat} {ops : List Oper} {g : Option (Nat × Bool)} {k : Bool → K R} {s : PSt} {r : R} (h : pGuard ops g k s = some r) :
    ∃ b e', k b ⟨e', s.os⟩ = some r ∧ Knows s.env e' ∧ ∀ (Φ : Fz) (g' : Gh) (T : Tr Value), (∀ t, Rep Φ g' (s.env t) (slotV T t)) → wantT T ops g = b := by
  unfold pGuard at h
  split at h
  · exact ⟨true, s.env, h, .refl _, fun _ _ _ _ => rfl⟩
  · rename_i j w
    split at h
    · rename_i p hp
      split at h
      · rename_i d hd
        split at h
        · rename_i hud
          refine ⟨false, s.env, h, .refl _, fun Φ g' T hT => ?_⟩
          have := hT d
          rw [hud] at this
          generalize hu : slotV T d = u at this
          cases this with
          | tup q1 q2 q3 =>
            cases q1
            show (match nth ops j with
              | some o => (match o.dst with
                | some d => (match T.get d with
                  | some (.bool b) => (match b, w with | true, true => true | false, false => true | _, _ => false)
                  | _ => false)
                | none => false)
              | none => false) = _
            rw [hp]; dsimp only
            rw [hd]; dsimp only
            unfold slotV at hu
            split at hu
            · rename_i v hv; rw [hv, hu]
            · rename_i hv; rw [hv]
        obtain ⟨b, e', h1, h2, h3⟩ := choose_sim h
        refine ⟨_, e', h1, h3, fun Φ g' T hT => ?_⟩
        have := hT d
        rw [show s.env d = .bool b from h2] at this
        generalize hu : slotV T d = u at this
        cases this
        have hg := getT_bool hu
        show (match nth ops j with
          | some o => (match o.dst with
            | some d => (match T.get d with
              | some (.bool b) => (match b, w with | true, true => true | false, false => true | _, _ => false)
              | _ => false)
            | none => false)
          | none => false) = _
        rw [hp]; dsimp only
        rw [hd]; dsimp only
        rw [hg]; dsimp only
        cases b <;> cases w <;> rfl
      · cases h
    · cases h
def OpTo (cx : Cx) (n : Nat) (ops : List Oper) (o : Oper) (e : PEnv) (os : List PObj) (e' : PEnv) (os' : List PObj) (t : List Nat) : Prop :=
  ∃ N, ∀ m, N ≤ m → ∀ (Φ : Fz) (g : Gh) (T : Tr Value) (H : Hp), RS Φ g e os T H →
    ∃ T' H' Φ' g', stepOp cx (evFun cx m) ops o ⟨n, T, [], H⟩ = .ok ⟨n, T', [], H'⟩ ∧ RS Φ' g' e' os' T' H' ∧ Nx Φ g os H Φ' g' os' H' t
theorem op_sim (C : PvOk cx tb) {G : FuncId → PSem R} (HG : ∀ f, SemOK cx f (G f)) {n : Nat} {ops : List Oper} {o : Oper} {k : KT R} {s : PSt} {r : R} (h : pOp tb G n ops o k s = some r) :
    ∃ e' os' t, k ⟨e', os'⟩ t = some r ∧ OpTo cx n ops o s.env s.os e' os' t := by
  unfold pOp at h
  obtain ⟨b, e1, h1, h2, h3⟩ := guard_sim (n := n) h
  cases b with
  | true =>
    obtain ⟨e', os', t, k1, N, k2⟩ := step_sim C HG h1
    refine ⟨e', os', t, k1, N, fun m hm Φ g T H RS0 => ?_⟩
    obtain ⟨T', H', Φ', g', r1, r2, r3⟩ := k2 m hm Φ g T H (h2.rs RS0)
    refine ⟨T', H', Φ', g', ?_, r2, r3⟩
    show (bif wantT T ops o.guard then stepCls (evFun cx m) (cls cx o) o.dst ⟨n, T, [], H⟩ else (⟨n, T, [], H⟩ : St).setD o.dst undef H) = _
    rw [h3 Φ g T RS0.tm]
    exact r1
  | false =>
    dsimp only [cond_false] at h1
    split at h1
    · rename_i hd
      refine ⟨_, _, _, h1, 0, fun m hm Φ g T H RS0 => ?_⟩
      have R1 := h2.rs RS0
      refine ⟨_, H, Φ, g, ?_, RS.put R1.tm R1.hs (.tup .nil (fun _ h => by cases h) (Nat.zero_le _) : Rep Φ g (.tup []) undef) o.dst, Nx.refl _ _ _ _⟩
      show (bif wantT T ops o.guard then stepCls (evFun cx m) (cls cx o) o.dst ⟨n, T, [], H⟩ else (⟨n, T, [], H⟩ : St).setD o.dst undef H) = _
      rw [h3 Φ g T RS0.tm]
      exact setD_ok (H0 := H) hd undef
    · cases h1
def GoesTo (cx : Cx) (n : Nat) (run : Nat → St → SR) (s s' : PSt) : Prop :=
  ∃ N, ∀ m, N ≤ m → ∀ (Φ : Fz) (g : Gh) (T : Tr Value) (H : Hp), RS Φ g s.env s.os T H →
    ∃ T' H' Φ' g', run m ⟨n, T, [], H⟩ = .ok ⟨n, T', [], H'⟩ ∧ RS Φ' g' s'.env s'.os T' H' ∧ Nl Φ g s.os H Φ' g' s'.os H'
theorem ops_sim (C : PvOk cx tb) {G : FuncId → PSem R} (HG : ∀ f, SemOK cx f (G f)) {n : Nat} {ops : List Oper} : ∀ (l : List Oper) {k : K R} {s : PSt} {r : R}, pOps tb G n ops l k s = some r →
    ∃ s', k s' = some r ∧ GoesTo cx n (fun m => runOps cx (evFun cx m) ops l) s s'
  | [], k, s, r, h => ⟨s, h, 0, fun m _ Φ g T H RS0 => ⟨T, H, Φ, g, rfl, RS0, Nl.refl _ _ _ _⟩⟩
  | o :: l, k, s, r, h => by
    have h : pOp tb G n ops o (fun s _ => pOps tb G n ops l k s) s = some r := h
    obtain ⟨e1, os1, t, h1, N1, h2⟩ := op_sim C HG h
    obtain ⟨s', h3, N2, h4⟩ := ops_sim C HG l h1
    refine ⟨s', h3, max N1 N2, fun m hm Φ g T H RS0 => ?_⟩
    obtain ⟨T1, H1, Φ1, g1, k1, k2, k3⟩ := h2 m (by omega) Φ g T H RS0
    obtain ⟨T2, H2, Φ2, g2, r1, r2, r3⟩ := h4 m (by omega) Φ1 g1 T1 H1 k2
    refine ⟨T2, H2, Φ2, g2, ?_, r2, k3.weak.trans r3⟩
    show (match stepOp cx (evFun cx m) ops o ⟨n, T, [], H⟩ with | .ok s => runOps cx (evFun cx m) ops l s | .no => .no) = _
    rw [k1]
    exact r1
end Go.Pv
namespace Go.Pv
open Go Go.EvM
set_option linter.unusedVariables false
set_option linter.unusedSectionVars false
variable [Dat] {cx : Cx} {tb : TypeId → Option TB} {R : Type}
theorem pure_t {os os' : List PObj} {o : Option V} {c : Bool} {v : V} {t : List Nat} (h : pureP os o = .ok c v os' t) : t = [] := (pure_some h).2.2
theorem cond_t {os os' : List PObj} {o : Option (Bool × V)} {c : Bool} {v : V} {t : List Nat} (h : condP os o = .ok c v os' t) : t = [] := by
  unfold condP at h
  split at h
  · cases h; rfl
  · cases h
theorem pop_t {e : PEnv} {os os' : List PObj} {o : Oper} {c : Bool} {v : V} {t : List Nat} (hm : isMP o = false) (h : pop tb os e o.op = .ok c v os' t) : t = [] := by
  obtain ⟨dst, op, ty, pos, after, guard⟩ := o
  cases op
  case store => cases hm
  case binOp op t x y u =>
    cases op
    case eql =>
      simp only [pop] at h
      split at h
      · split at h <;> first | exact cond_t h | cases h
      · cases h
    case neq =>
      simp only [pop] at h
      split at h
      · split at h <;> first | exact cond_t h | cases h
      · cases h
    all_goals exact cond_t h
  case call cl =>
    obtain ⟨callee, args, ts⟩ := cl
    cases callee with
    | value f => cases h
    | invoke r m => cases h
    | builtin b =>
      have h : pBuiltin tb os b (args.toList.map (evP e)) ts.toList = .ok c v os' t := h
      unfold pBuiltin at h
      cases b <;> first | cases hm; done | skip
      all_goals
        dsimp only at h
        repeat' split at h
      all_goals first
        | (cases h; rfl)
        | cases h
        | (rw [Bool.cond_eq_ite] at h; split at h <;> first | (cases h; rfl) | cases h)
  case nilCheck => exact pure_t h
  case unOp => exact pure_t h
  case fieldAddr => exact pure_t h
  case field => exact pure_t h
  case extract => exact pure_t h
  case load =>
    simp only [pop] at h
    split at h
    · exact pure_t h
    · cases h
  case slice t x lo hi mx =>
    cases mx with
    | some m => cases h
    | none =>
      simp only [pop, pSlice] at h
      repeat' split at h
      all_goals first
        | (cases h; rfl)
        | cases h
        | skip
      all_goals
        rw [Bool.cond_eq_ite] at h
        split at h <;> first | (cases h; rfl) | cases h
  case buildSlice =>
    simp only [pop] at h
    repeat' split at h
    all_goals first
      | cases h
      | skip
    all_goals
      rw [Bool.cond_eq_ite] at h
      split at h <;> first | (cases h; rfl) | cases h
  case makeSlice =>
    simp only [pop] at h
    repeat' split at h
    all_goals first
      | cases h
      | skip
    all_goals
      rw [Bool.cond_eq_ite] at h
      split at h <;> first | (cases h; rfl) | cases h
  case indexAddr =>
    simp only [pop, pIndexAddr] at h
    repeat' split at h
    all_goals first
      | cases h
      | skip
    all_goals
      rw [Bool.cond_eq_ite] at h
      split at h <;> first | (cases h; rfl) | cases h
  all_goals
    simp only [pop, pConv] at h
    try repeat' split at h
    all_goals first
      | (cases h; rfl)
      | cases h
theorem leans_nd {e : PEnv} {os os' : List PObj} {op : Op} {v : V} {t : List Nat} {c : Bool} (h : pop tb os e op = .ok c v os' t) : ∀ o ∈ leansOn e op v, ∃ x : PObj, os'[o]? = some x ∧ x ≠ .dead := by
  have new : ∀ {os1 : List PObj} {x : PObj} {o : Nat}, x ≠ .dead → o ∈ [os1.length] → ∃ y : PObj, (os1 ++ [x])[o]? = some y ∧ y ≠ .dead := fun {os1 x o} hx ho => by
    simp at ho; subst ho
    exact ⟨x, by simp, hx⟩
  cases op
  case alloc =>
    simp only [pop] at h
    split at h
    · cases h; exact fun o ho => new (fun e => by cases e) ho
    · cases h
  case box =>
    simp only [pop] at h
    split at h
    · cases h; exact fun o ho => new (fun e => by cases e) ho
    · cases h
  case load t a =>
    simp only [pop] at h
    split at h
    · obtain ⟨h0, rfl, _⟩ := pure_some h
      intro o ho
      have ho : o ∈ (match evP e a with | .ptr o _ => [o] | .elt a _ _ => [a] | _ => []) := ho
      unfold loadP at h0
      generalize evP e a = p at h0 ho
      cases p <;> first | (simp at ho; done) | skip
      · simp at ho; subst ho
        dsimp only at h0
        split at h0
        · rename_i hx; exact ⟨_, nth_some hx, fun e => by cases e⟩
        · cases h0
      · simp at ho; subst ho
        dsimp only at h0
        split at h0
        · rename_i hx; exact ⟨_, nth_some hx, fun e => by cases e⟩
        · rename_i hx; exact ⟨_, nth_some hx, fun e => by cases e⟩
        · cases h0
    · cases h
  case buildSlice =>
    simp only [pop] at h
    repeat' split at h
    all_goals first
      | cases h
      | skip
    all_goals
      rw [Bool.cond_eq_ite] at h
      split at h <;> first | (cases h; exact fun o ho => new (fun e => by cases e) ho) | cases h
  case makeSlice =>
    simp only [pop] at h
    repeat' split at h
    all_goals first
      | cases h
      | skip
    all_goals
      rw [Bool.cond_eq_ite] at h
      split at h <;> first | (cases h; exact fun o ho => new (fun e => by cases e) ho) | cases h
  case convert s d x =>
    have lst : ∀ {c : Nat} {l : List (Dat.S c)} {o : Nat}, listOf c os (evP e x) = some l → o ∈ (match evP e x with | .loc a => [a] | _ => []) → ∃ y : PObj, os[o]? = some y ∧ y ≠ .dead := fun {c l o} hl ho => by
      unfold listOf at hl
      generalize evP e x = p at hl ho
      cases p <;> first | (simp at ho; done) | skip
      simp at ho; subst ho
      dsimp only at hl
      split at hl
      · rename_i hx; exact ⟨_, nth_some hx, fun e => by cases e⟩
      · rename_i hx; exact ⟨_, nth_some hx, fun e => by cases e⟩
      · cases hl
    simp only [pop, pConv] at h
    repeat' split at h
    all_goals first
      | cases h
      | skip
    · rename_i hx
      intro o ho
      have ho : o ∈ (match evP e x with | .loc a => [a] | _ => []) := ho
      rw [hx] at ho; cases ho
    · rename_i hx
      intro o ho
      have ho : o ∈ (match evP e x with | .loc a => [a] | _ => []) := ho
      rw [hx] at ho; cases ho
    · rename_i hl
      exact fun o ho => lst hl ho
    · exact fun o ho => new (fun e => by cases e) ho
  all_goals exact fun o ho => by cases ho
end Go.Pv
namespace Go.Pv
open Go Go.EvM
set_option linter.unusedVariables false
set_option linter.unusedSectionVars false
variable [Dat] {cx : Cx} {tb : TypeId → Option TB} {R : Type}
def FlE (Φ : Fz) (g : Gh) (os : List PObj) (H : Hp) (flP : Fls) (k : Nat) : Fl → Prop
  | .look f T v hi => k ≤ hi → f3 v = true ∧ ∃ ls, (ls, hi) ∈ flP ∧ (∀ o ∈ ls, ∃ x : PObj, os[o]? = some x ∧ x ≠ .dead) ∧ ∀ H2 : Hp, (∀ b, ((∃ x, Φ b = some x) ∨ ∃ o ∈ ls, g.vir o = false ∧ g.blk o = b) → H2.b.get b = H.b.get b) → f (evO T) H2 = some v
  | .make b ob hi => k ≤ hi → eqOb ob ob = true ∧ H.b.get b = some ob ∧ ∃ ls o, (ls, hi) ∈ flP ∧ o ∈ ls ∧ g.vir o = false ∧ g.blk o = b ∧ ∃ x : PObj, os[o]? = some x ∧ x ≠ .dead
theorem FlE.ok {Φ : Fz} {g : Gh} {os : List PObj} {H : Hp} {flP : Fls} {k : Nat} {x : Fl} (h : FlE Φ g os H flP k x) : flOk k H x = true := by
  cases x with
  | look f T v hi =>
    unfold flOk
    dsimp only
    cases hk : Nat.ble k hi with
    | false => rfl
    | true =>
      obtain ⟨h1, ls, _, _, h2⟩ := h (Nat.le_of_ble_eq_true hk)
      rw [h2 H fun _ _ => rfl]
      exact eqVal_f3 h1
  | make b ob hi =>
    unfold flOk
    dsimp only
    cases hk : Nat.ble k hi with
    | false => rfl
    | true =>
      obtain ⟨h1, h2, _⟩ := h (Nat.le_of_ble_eq_true hk)
      rw [h2]; exact h1
theorem untouched {Φ Φ' : Fz} {g g' : Gh} {os os' : List PObj} {H H' : Hp} {t : List Nat} (hs : HS Φ g os H) (hx : Nx Φ g os H Φ' g' os' H' t) {o : Nat} {x : PObj} (ho : os[o]? = some x) (hd : x ≠ .dead) (hv : g.vir o = false) (hot : o ∉ t) : H'.b.get (g.blk o) = H.b.get (g.blk o) ∧ g'.blk o = g.blk o ∧ g'.vir o = false := by
  have hlt := hs.lt ho
  refine ⟨?_, hx.gle.blk o hlt, (hx.gle.vir o hlt).trans hv⟩
  have hb : g.blk o < H.n := by
    cases x with
    | cells l => exact (hs.ob o _ ho).2.1
    | arr k l =>
      obtain ⟨_, _, h | h⟩ := hs.ob o _ ho
      · rw [hv] at h; cases h.1
      · exact h.2.1
    | frz k l =>
      obtain ⟨_, _, h | ⟨_, _, c, n, z, t, r, h, _⟩⟩ := hs.ob o _ ho
      · rw [hv] at h; cases h.1
      · exact (hs.phi _ _ h).1
    | dead => exact absurd rfl hd
  refine hx.fr _ hb fun p hp hvp heq => ?_
  obtain ⟨y, y1, y2⟩ := hx.tl p hp
  have ly : Lv g p y := ⟨y2 hvp, hvp⟩
  cases x with
  | cells l => exact hot (by rw [← hs.inj p o y _ y1 ho ly ⟨trivial, hv⟩ heq]; exact hp)
  | arr k l => exact hot (by rw [← hs.inj p o y _ y1 ho ly ⟨trivial, hv⟩ heq]; exact hp)
  | frz k l =>
    obtain ⟨_, _, h | ⟨_, _, c, n, z, t, r, h, _⟩⟩ := hs.ob o _ ho
    · rw [hv] at h; cases h.1
    · have := ((hs.ob p y y1).blk_lt ly).2
      rw [heq, h] at this; cases this
  | dead => exact absurd rfl hd
theorem FlE.step {Φ Φ' : Fz} {g g' : Gh} {os os' : List PObj} {H H' : Hp} {flP flP' : Fls} {k k' : Nat} {t : List Nat} (hs : HS Φ g os H) (hs' : HS Φ' g' os' H') (hx : Nx Φ g os H Φ' g' os' H' t) (hk : k ≤ k') (hfl : ∀ p ∈ flP, p ∈ flP')
    (ha : ∀ p ∈ flP, k' ≤ p.2 → ∀ o ∈ p.1, o ∉ t) {x : Fl} (h : FlE Φ g os H flP k x) : FlE Φ' g' os' H' flP' k' x := by
  cases x with
  | look f T v hi =>
    intro hk'
    obtain ⟨h1, ls, h2, h3, h4⟩ := h (Nat.le_trans hk hk')
    refine ⟨h1, ls, hfl _ h2, fun o ho => ?_, fun H2 hH => h4 H2 fun b hb => ?_⟩
    · obtain ⟨y, y1, y2⟩ := h3 o ho
      exact hx.nd o y y1 y2 (ha _ h2 hk' o ho)
    · rcases hb with ⟨x, hb⟩ | ⟨o, ho, hv, rfl⟩
      · rw [hH b (.inl ⟨x, hx.phi b x hb⟩), (hs'.phi _ _ (hx.phi b x hb)).2, (hs.phi _ _ hb).2]
      · obtain ⟨y, y1, y2⟩ := h3 o ho
        obtain ⟨r1, r2, r3⟩ := untouched hs hx y1 y2 hv (ha _ h2 hk' o ho)
        rw [hH _ (.inr ⟨o, ho, r3, r2⟩), r1]
  | make b ob hi =>
    intro hk'
    obtain ⟨h1, h2, ls, o, h3, h4, hv, rfl, y, y1, y2⟩ := h (Nat.le_trans hk hk')
    obtain ⟨r1, r2, r3⟩ := untouched hs hx y1 y2 hv (ha _ h3 hk' o h4)
    exact ⟨h1, r1.trans h2, ls, o, hfl _ h3, h4, r3, r2, hx.nd o y y1 y2 (ha _ h3 hk' o h4)⟩
theorem it_sim (C : PvOk cx tb) {n : Nat} {ops : List Oper} {it : It} {kk : PSt → Fls → Option R} {flP : Fls} {s : PSt} {r : R} {k : Nat} (hm : isMP it.o = false) (hM : isM cx it.o = false) (h : pIt tb n ops it kk flP s = some r) :
    ∃ s' flP', kk s' flP' = some r ∧ (∀ p ∈ flP, p ∈ flP') ∧ ∀ (Φ : Fz) (g : Gh) (T : Tr Value) (H : Hp) (fl : List Fl), RS Φ g s.env s.os T H → (∀ x ∈ fl, FlE Φ g s.os H flP k x) →
      ∃ T' H' Φ' g' fl', drawIt cx ops it ⟨n, T, [], H⟩ fl = some (⟨n, T', [], H'⟩, fl') ∧ RS Φ' g' s'.env s'.os T' H' ∧ Nx Φ g s.os H Φ' g' s'.os H' [] ∧ (∀ x ∈ fl', FlE Φ' g' s'.os H' flP' k x) := by
  unfold pIt at h
  obtain ⟨b, e1, h1, h2, h3⟩ := guard_sim (n := n) h
  split at h1
  · cases h1
  rename_i hq
  obtain ⟨hd, hops⟩ := dst_ops hq
  cases b with
  | false =>
    refine ⟨_, flP, h1, fun _ h => h, fun Φ g T H fl RS0 hfl => ?_⟩
    have R1 := h2.rs RS0
    refine ⟨_, H, Φ, g, fl, ?_, RS.put R1.tm R1.hs (.tup .nil (fun _ h => by cases h) (Nat.zero_le _) : Rep Φ g (.tup []) undef) it.o.dst, Nx.refl _ _ _ _, hfl⟩
    show (bif wantT T ops it.o.guard then _ else (match (⟨n, T, [], H⟩ : St).setD it.o.dst undef H with | .ok s' => some (s', fl) | .no => none)) = _
    rw [h3 Φ g T RS0.tm]
    show (match (⟨n, T, [], H⟩ : St).setD it.o.dst undef H with | .ok s' => some (s', fl) | .no => none) = _
    rw [setD_ok (H0 := H) hd undef]
    rfl
  | true =>
    dsimp only [cond_true] at h1
    split at h1
    · rename_i c a b ho
      obtain ⟨t, e', k1, k2, k3⟩ := choose_sim h1
      refine ⟨_, flP, k1, fun _ h => h, fun Φ g T H fl RS0 hfl => ?_⟩
      have R1 := h2.rs RS0
      have R2 := k3.rs R1
      have hops2 := hops
      rw [ho] at hops2
      have hx : okP c = true ∧ okP a = true ∧ okP b = true := by simpa [Op.operands] using hops2
      have hab : okP (bif t then a else b) = true := by cases t; exact hx.2.2; exact hx.2.1
      refine ⟨_, H, Φ, g, fl, ?_, RS.put R2.tm R2.hs (opnd_rep R2.tm hab) it.o.dst, Nx.refl _ _ _ _, hfl⟩
      unfold drawIt
      rw [h3 Φ g T RS0.tm]
      dsimp only [cond_true]
      rw [cls_ok hops, ho]
      have hr := opnd_rep R1.tm hx.1
      rw [k2] at hr
      show (match (match evO T c with | .bool t => some (bif t then evO T a else evO T b) | _ => none) with
        | some v => (match (⟨n, T, [], H⟩ : St).setD it.o.dst v H with | .ok s' => some (s', fl) | .no => none)
        | none => none) = _
      generalize hu : evO T c = u at hr
      cases hr
      dsimp only
      rw [setD_ok (H0 := H) hd]
      cases t <;> rfl
    · split at h1
      · rename_i c v os' t hpop
        cases c with
        | false => cases h1
        | true =>
          dsimp only [cond_true] at h1
          obtain rfl := pop_t hm hpop
          refine ⟨_, _, h1, fun p hp => List.mem_cons_of_mem _ hp, fun Φ g T H fl RS0 hfl => ?_⟩
          have R1 := h2.rs RS0
          obtain ⟨w, H', Φ', g', m1, m2, m3, m4⟩ := pop_sim C hops hpop Φ g T H R1
          have hnd := leans_nd hpop
          have hRS := RS.put (rep_tm R1.tm m4.phi m4.gle) m3 m2 it.o.dst
          have hold : ∀ x ∈ fl, FlE Φ' g' os' H' ((leansOn e1 it.o.op v, it.hi) :: flP) k x := fun x hx => (hfl x hx).step RS0.hs m3 m4 (Nat.le_refl _) (fun p hp => List.mem_cons_of_mem _ hp) (fun p hp _ o ho h => by cases h)
          unfold drawIt
          rw [h3 Φ g T RS0.tm]
          dsimp only [cond_true]
          unfold isM at hM
          rw [cls_ok hops] at hM ⊢
          generalize cOp cx it.o.op = cl at m1 hM ⊢
          cases m1 with
          | pure q =>
            refine ⟨_, H, Φ', g', fl, ?_, hRS, m4, hold⟩
            dsimp only
            rw [q]
            dsimp only
            rw [setD_ok (H0 := H) hd]
          | look q q2 =>
            rename_i f
            refine ⟨_, H, Φ', g', .look f T w it.hi :: fl, ?_, hRS, m4, fun x hx => ?_⟩
            · dsimp only
              rw [q]
              dsimp only
              rw [setD_ok (H0 := H) hd]
            · rcases List.mem_cons.1 hx with rfl | hx
              · exact fun _ => ⟨m2.f3, _, List.mem_cons_self, hnd, q2⟩
              · exact hold x hx
          | make q q2 q3 =>
            rename_i f mk
            refine ⟨_, _, Φ', g', .make H.n mk.ob it.hi :: fl, ?_, hRS, m4, fun x hx => ?_⟩
            · dsimp only
              rw [q]
              dsimp only
              rw [setD_ok (H0 := H) hd]
            · rcases List.mem_cons.1 hx with rfl | hx
              · obtain ⟨o, o1, o2, o3⟩ := q2
                exact fun _ => ⟨q3, Tr.get_put_eq _ _ _, _, o, List.mem_cons_self, o1, o2, o3, hnd o o1⟩
              · exact hold x hx
          | eff q =>
            cases hM
      · cases h1
theorem its_sim (C : PvOk cx tb) {n : Nat} {ops : List Oper} {k : Nat} : ∀ (its : List It) {kk : PSt → Fls → Option R} {flP : Fls} {s : PSt} {r : R}, (∀ it ∈ its, isMP it.o = false ∧ isM cx it.o = false) → pIts tb n ops k its kk flP s = some r →
    ∃ s' flP', kk s' flP' = some r ∧ (∀ p ∈ flP, p ∈ flP') ∧ ∀ (Φ : Fz) (g : Gh) (T : Tr Value) (H : Hp) (fl : List Fl), RS Φ g s.env s.os T H → (∀ x ∈ fl, FlE Φ g s.os H flP k x) →
      ∃ T' H' Φ' g' fl', drawIts cx ops k its ⟨n, T, [], H⟩ fl = some (⟨n, T', [], H'⟩, fl') ∧ RS Φ' g' s'.env s'.os T' H' ∧ Nx Φ g s.os H Φ' g' s'.os H' [] ∧ (∀ x ∈ fl', FlE Φ' g' s'.os H' flP' k x)
  | [], kk, flP, s, r, _, h => ⟨s, flP, h, fun _ h => h, fun Φ g T H fl RS0 hfl => ⟨T, H, Φ, g, fl, rfl, RS0, Nx.refl _ _ _ _, hfl⟩⟩
  | it :: its, kk, flP, s, r, hM, h => by
    have h : (bif Nat.beq it.lo k then pIt tb n ops it (fun s fl => pIts tb n ops k its kk fl s) flP s else pIts tb n ops k its kk flP s) = some r := h
    cases hlo : Nat.beq it.lo k with
    | false =>
      rw [hlo] at h
      obtain ⟨s', flP', h1, h2, h3⟩ := its_sim C its (fun x hx => hM x (by simp [hx])) h
      refine ⟨s', flP', h1, h2, fun Φ g T H fl RS0 hfl => ?_⟩
      obtain ⟨T', H', Φ', g', fl', k1, k2⟩ := h3 Φ g T H fl RS0 hfl
      refine ⟨T', H', Φ', g', fl', ?_, k2⟩
      rw [drawIts, hlo]; exact k1
    | true =>
      rw [hlo] at h
      dsimp only [cond_true] at h
      obtain ⟨s1, flP1, h1, h2, h3⟩ := it_sim (k := k) C (hM it (by simp)).1 (hM it (by simp)).2 h
      obtain ⟨s', flP', h4, h5, h6⟩ := its_sim C its (fun x hx => hM x (by simp [hx])) h1
      refine ⟨s', flP', h4, fun p hp => h5 p (h2 p hp), fun Φ g T H fl RS0 hfl => ?_⟩
      obtain ⟨T1, H1, Φ1, g1, fl1, k1, k2, k3, k4⟩ := h3 Φ g T H fl RS0 hfl
      obtain ⟨T', H', Φ', g', fl', r1, r2, r3, r4⟩ := h6 Φ1 g1 T1 H1 fl1 k2 k4
      refine ⟨T', H', Φ', g', fl', ?_, r2, ?_, r4⟩
      · rw [drawIts, hlo]
        dsimp only [cond_true]
        rw [k1]; exact r1
      · exact k3.trans_nil r3
theorem segs_sim (C : PvOk cx tb) {G : FuncId → PSem R} (HG : ∀ f, SemOK cx f (G f)) {n : Nat} {ops : List Oper} {its : List It} (hM : ∀ it ∈ its, isMP it.o = false ∧ isM cx it.o = false) : ∀ (ms : List (Nat × Oper)) {k : Nat} {kn : K R} {flP : Fls} {s : PSt} {r : R}, pSegs tb G n ops its ms k kn flP s = some r →
    ∃ s', kn s' = some r ∧ ∃ N, ∀ m, N ≤ m → ∀ (Φ : Fz) (g : Gh) (T : Tr Value) (H : Hp) (fl : List Fl), RS Φ g s.env s.os T H → (∀ x ∈ fl, FlE Φ g s.os H flP k x) →
      ∃ T' H' Φ' g', drawSegs cx (evFun cx m) ops its k ms ⟨n, T, [], H⟩ fl = .ok ⟨n, T', [], H'⟩ ∧ RS Φ' g' s'.env s'.os T' H' ∧ Nl Φ g s.os H Φ' g' s'.os H'
  | [], k, kn, flP, s, r, h => by
    have h : pIts tb n ops k its (fun s _ => kn s) flP s = some r := h
    obtain ⟨s', flP', h1, h2, h3⟩ := its_sim C its hM h
    refine ⟨s', h1, 0, fun m _ Φ g T H fl RS0 hfl => ?_⟩
    obtain ⟨T', H', Φ', g', fl', k1, k2, k3, k4⟩ := h3 Φ g T H fl RS0 hfl
    refine ⟨T', H', Φ', g', ?_, k2, k3.weak⟩
    rw [drawSegs, k1]
    dsimp only
    rw [show fl'.all (flOk k H') = true from List.all_eq_true.2 fun x hx => (k4 x hx).ok]
    rfl
  | mo :: ms, k, kn, flP, s, r, h => by
    have h : pIts tb n ops k its (fun s fl => pOp tb G n ops mo.2 (fun s t => bif fl.all (fun p => Nat.ble p.2 k || apartN p.1 t) then pSegs tb G n ops its ms (Nat.succ k) kn fl s else none) s) flP s = some r := h
    obtain ⟨s1, flP1, h1, h2, h3⟩ := its_sim C its hM h
    obtain ⟨e2, os2, t, h4, N1, h5⟩ := op_sim C HG h1
    cases hap : flP1.all (fun p => Nat.ble p.2 k || apartN p.1 t) with
    | false => rw [hap] at h4; cases h4
    | true =>
      rw [hap] at h4
      obtain ⟨s', h6, N2, h7⟩ := segs_sim C HG hM ms h4
      refine ⟨s', h6, max N1 N2, fun m hm Φ g T H fl RS0 hfl => ?_⟩
      obtain ⟨T1, H1, Φ1, g1, fl1, k1, k2, k3, k4⟩ := h3 Φ g T H fl RS0 hfl
      obtain ⟨T2, H2, Φ2, g2, r1, r2, r3⟩ := h5 m (by omega) Φ1 g1 T1 H1 k2
      have hfl2 : ∀ x ∈ fl1, FlE Φ2 g2 os2 H2 flP1 (k + 1) x := fun x hx => (k4 x hx).step k2.hs r2.hs r3 (Nat.le_succ _) (fun _ h => h) (fun p hp hk o ho hot => by
        have := List.all_eq_true.1 hap p hp
        rw [Bool.or_eq_true] at this
        rcases this with this | this
        · have := Nat.le_of_ble_eq_true this; omega
        · unfold apartN at this
          have := List.all_eq_true.1 this o ho
          simp only [Bool.not_eq_true', memN] at this
          rw [List.any_eq_false] at this
          exact this o hot (by simp))
      obtain ⟨T3, H3, Φ3, g3, q1, q2, q3⟩ := h7 m (by omega) Φ2 g2 T2 H2 fl1 r2 hfl2
      refine ⟨T3, H3, Φ3, g3, ?_, q2, k3.weak.trans (r3.weak.trans q3)⟩
      rw [drawSegs, k1]
      dsimp only
      rw [show fl1.all (flOk k H1) = true from List.all_eq_true.2 fun x hx => (k4 x hx).ok]
      dsimp only [cond_true]
      rw [r1]
      dsimp only
      rw [show Nat.ble H1.n H2.n = true from Nat.ble_eq_true_of_le r3.n]
      exact q1
theorem mem_numbered (l : List Oper) : ∀ {i : Nat} {p : Nat × Oper}, p ∈ numbered i l → p.2 ∈ l := by
  induction l with
  | nil => intro i p h; have h : p ∈ ([] : List (Nat × Oper)) := h; cases h
  | cons o l ih =>
    intro i p h
    have h : p ∈ (i, o) :: numbered (i + 1) l := h
    rcases List.mem_cons.1 h with rfl | h
    · simp
    · exact List.mem_cons_of_mem _ (ih h)
def sameM (cx : Cx) (ops : List Oper) : Prop := ∀ o ∈ ops, isM cx o = isMP o
theorem plan_eq {ops : List Oper} (h : sameM cx ops) (an : List Nat) : mkPlan cx an (numbered 0 ops) = mkPlanP an (numbered 0 ops) := by
  have h1 : ((numbered 0 ops).filter fun p => isM cx p.2) = (numbered 0 ops).filter fun p => isMP p.2 := List.filter_congr fun p hp => h p.2 (mem_numbered _ hp)
  have h2 : ((numbered 0 ops).filter fun p => !(isM cx p.2)) = (numbered 0 ops).filter fun p => !(isMP p.2) := List.filter_congr fun p hp => by rw [h p.2 (mem_numbered _ hp)]
  unfold mkPlan mkPlanP
  rw [h1, h2]
theorem draw_sim (C : PvOk cx tb) {G : FuncId → PSem R} (HG : ∀ f, SemOK cx f (G f)) {n : Nat} {ops : List Oper} (hM : sameM cx ops) {kn : K R} {s : PSt} {r : R} (h : pDraw tb G n ops kn s = some r) :
    ∃ s', kn s' = some r ∧ GoesTo cx n (fun m => runDraw cx (evFun cx m) ops) s s' := by
  unfold pDraw at h
  dsimp only at h
  cases hp : planOk ops (ancs ops) (numbered 0 ops) (mkPlanP (ancs ops) (numbered 0 ops)) with
  | false => rw [hp] at h; cases h
  | true =>
    rw [hp] at h
    obtain ⟨s', h1, N, h2⟩ := segs_sim C HG (its := (mkPlanP (ancs ops) (numbered 0 ops)).its) (fun it hit => by
      unfold mkPlanP at hit
      dsimp only at hit
      obtain ⟨p, hp, rfl⟩ := List.mem_map.1 hit
      obtain ⟨q1, q2⟩ := List.mem_filter.1 hp
      have q2 : isMP p.2 = false := by simpa using q2
      exact ⟨q2, (hM p.2 (mem_numbered _ q1)).trans q2⟩) _ h
    refine ⟨s', h1, N, fun m hm Φ g T H RS0 => ?_⟩
    obtain ⟨T', H', Φ', g', k1, k2, k3⟩ := h2 m hm Φ g T H [] RS0 (fun x hx => by cases hx)
    refine ⟨T', H', Φ', g', ?_, k2, k3⟩
    show runDraw cx (evFun cx m) ops ⟨n, T, [], H⟩ = _
    unfold runDraw planOf
    rw [plan_eq hM, hp]
    exact k1
end Go.Pv
namespace Go.Pv
open Go Go.EvM
set_option linter.unusedVariables false
set_option linter.unusedSectionVars false
variable [Dat] {cx : Cx} {tb : TypeId → Option TB} {R : Type}
mutual
theorem Rep.data {Φ : Fz} {g : Gh} (g' : Gh) : ∀ {p : V} {v : Value}, isData p = true → Rep Φ g p v → Rep Φ g' p v
  | _, _, _, .bool b => .bool b
  | _, _, _, .int k n => .int k n
  | _, _, _, .str l => .str l
  | _, _, _, .nilp => .nilp
  | _, _, _, .nils => .nils
  | _, _, _, .sln c => .sln c
  | _, _, _, .slb h1 h2 h3 h4 h5 => .slb h1 h2 h3 (fun i x hx => Reps.data g' (Dat.data _ x) (h4 i x hx)) h5
  | _, _, _, .nilf => .nilf
theorem Reps.data {Φ : Fz} {g : Gh} (g' : Gh) : ∀ {l : List V} {vs : List Value}, l.all isData = true → Reps Φ g l vs → Reps Φ g' l vs
  | _, _, _, .nil => .nil
  | _, _, h, .cons h1 h2 => by
    rw [List.all_cons, Bool.and_eq_true] at h
    exact .cons (Rep.data g' h.1 h1) (Reps.data g' h.2 h2)
end
theorem Rep.dataV {Φ : Fz} {g : Gh} (g' : Gh) {p : V} {v : Value} (h : dataV p = true) (hr : Rep Φ g p v) : Rep Φ g' p v := by
  cases p with
  | st c x => cases hr with
    | st h1 h2 h3 => exact .st (Reps.data g' (Dat.data _ x) h1) h2 h3
  | agg l => cases hr with
    | agg h1 h2 h3 => exact .agg (Reps.data g' h h1) h2 h3
  | _ => exact Rep.data g' h hr
theorem ArrC.data {Φ : Fz} {g : Gh} (g' : Gh) {c : Tr Value} {off k : Nat} {l : List (Dat.S k)} (h : ArrC Φ g c off k l) : ArrC Φ g' c off k l := fun i x hx => by
  obtain ⟨vs, h1, h2⟩ := h i x hx
  exact ⟨vs, Reps.data g' (Dat.data _ x) h1, h2⟩
theorem memN_iff {x : Nat} {l : List Nat} : memN x l = true ↔ x ∈ l := by
  unfold memN
  rw [List.any_eq_true]
  constructor
  · rintro ⟨y, h1, h2⟩; rw [Nat.eq_of_beq_eq_true h2]; exact h1
  · intro h; exact ⟨x, h, by simp⟩
theorem addN_spec : ∀ (m l : List Nat), l.Nodup → (addN l m).Nodup ∧ ∃ r, addN l m = l ++ r
  | [], l, h => ⟨h, [], by simp [addN]⟩
  | x :: m, l, h => by
    unfold addN
    cases hx : memN x l with
    | true => exact addN_spec m l h
    | false =>
      have hn : x ∉ l := fun hm => by rw [memN_iff.2 hm] at hx; cases hx
      obtain ⟨h1, r, h2⟩ := addN_spec m (l ++ [x]) (by
        rw [List.nodup_append]
        exact ⟨h, by simp, fun a ha b hb => by simp at hb; subst hb; exact fun e => hn (e ▸ ha)⟩)
      exact ⟨h1, [x] ++ r, by rw [show (bif false then addN l m else addN (l ++ [x]) m) = addN (l ++ [x]) m from rfl, h2, List.append_assoc]⟩
theorem upto_get : ∀ (k i : Nat), i < k → (upto k)[i]? = some i
  | k + 1, i, h => by
    have hl : ∀ k, (upto k).length = k := fun k => by induction k with
      | zero => rfl
      | succ k ih => simp [upto, ih]
    unfold upto
    by_cases hi : i < k
    · rw [List.getElem?_append_left (by rw [hl]; exact hi)]; exact upto_get k i hi
    · obtain rfl : i = k := by omega
      rw [List.getElem?_append_right (by rw [hl]; exact Nat.le_refl _), hl, Nat.sub_self]; rfl
theorem upto_mem {k i : Nat} : i ∈ upto k ↔ i < k := by
  induction k with
  | zero => simp [upto]
  | succ k ih => simp only [upto, List.mem_append, ih, List.mem_singleton]; omega
theorem upto_nodup (k : Nat) : (upto k).Nodup := by
  induction k with
  | zero => simp [upto]
  | succ k ih =>
    unfold upto
    rw [List.nodup_append]
    refine ⟨ih, by simp, fun a ha b hb => ?_⟩
    simp at hb
    have := upto_mem.1 ha
    omega
theorem ordO_spec (k : Nat) (vs : List V) (os : List PObj) : (ordO k vs os).Nodup ∧ ∀ i, i < k → (ordO k vs os)[i]? = some i := by
  unfold ordO
  dsimp only
  obtain ⟨h1, r1, e1⟩ := addN_spec (vs.flatMap refsV) (upto k) (upto_nodup k)
  generalize addN (upto k) (vs.flatMap refsV) = l1 at h1 e1
  obtain ⟨h2, r2, e2⟩ := addN_spec (l1.flatMap (refsO os)) l1 h1
  generalize addN l1 (l1.flatMap (refsO os)) = l2 at h2 e2
  obtain ⟨h3, r3, e3⟩ := addN_spec (l2.flatMap (refsO os)) l2 h2
  refine ⟨h3, fun i hi => ?_⟩
  rw [e3, e2, e1]
  have h := upto_get k i hi
  have hl := (List.getElem?_eq_some_iff.1 h).1
  rw [List.append_assoc, List.append_assoc, List.getElem?_append_left hl]
  exact h
theorem idxN_spec {x : Nat} : ∀ {l : List Nat} {j : Nat}, idxN x l = some j → l[j]? = some x
  | [], j, h => by cases h
  | y :: l, j, h => by
    unfold idxN at h
    cases hy : Nat.beq y x with
    | true => rw [hy] at h; cases h; rw [Nat.eq_of_beq_eq_true hy]; rfl
    | false =>
      rw [hy] at h
      dsimp only [cond_false] at h
      split at h
      · rename_i i hi
        cases h
        have := idxN_spec hi
        simpa using this
      · cases h
noncomputable def Gh.of (g : Gh) (or : List Nat) : Gh := ⟨or.length, fun j => g.blk ((or[j]?).getD 0), fun j => g.cap ((or[j]?).getD 0), fun j => g.len ((or[j]?).getD 0), fun j => g.es ((or[j]?).getD 0), fun j => g.vir ((or[j]?).getD 0)⟩
theorem ren1_sim {Φ : Fz} {g : Gh} {or : List Nat} {p : V} {v : Value} (h : Rep Φ g p v) : Rep Φ (g.of or) (ren1 or p) v := by
  have hu : Rep Φ (g.of or) .und v := .und h.f3
  cases h with
  | ptr off ho =>
    rename_i o
    unfold ren1
    dsimp only
    split
    · rename_i j hj
      have hg := idxN_spec hj
      have := Rep.ptr (Φ := Φ) (g := g.of or) (o := j) off (List.getElem?_eq_some_iff.1 hg).1
      rw [show (g.of or).blk j = g.blk o by show g.blk ((or[j]?).getD 0) = _; rw [hg]; rfl] at this
      exact this
    · exact hu
  | loc0 ho hv =>
    rename_i o
    unfold ren1
    dsimp only
    split
    · rename_i j hj
      have hg := idxN_spec hj
      exact .loc0 (List.getElem?_eq_some_iff.1 hg).1 (by show g.vir ((or[j]?).getD 0) = _; rw [hg]; exact hv)
    · exact hu
  | loc ho hv =>
    rename_i o
    unfold ren1
    dsimp only
    split
    · rename_i j hj
      have hg := idxN_spec hj
      have := Rep.loc (Φ := Φ) (g := g.of or) (a := j) (List.getElem?_eq_some_iff.1 hg).1 (by show g.vir ((or[j]?).getD 0) = _; rw [hg]; exact hv)
      rw [show (g.of or).blk j = g.blk o by show g.blk ((or[j]?).getD 0) = _; rw [hg]; rfl, show (g.of or).len j = g.len o by show g.len ((or[j]?).getD 0) = _; rw [hg]; rfl, show (g.of or).cap j = g.cap o by show g.cap ((or[j]?).getD 0) = _; rw [hg]; rfl] at this
      exact this
    · exact hu
  | elt off ho hi =>
    rename_i o i
    unfold ren1
    dsimp only
    split
    · rename_i j hj
      have hg := idxN_spec hj
      have := Rep.elt (Φ := Φ) (g := g.of or) (a := j) (i := i) off (List.getElem?_eq_some_iff.1 hg).1 (by show i < g.len ((or[j]?).getD 0); rw [hg]; exact hi)
      rw [show (g.of or).blk j = g.blk o by show g.blk ((or[j]?).getD 0) = _; rw [hg]; rfl, show (g.of or).es j = g.es o by show g.es ((or[j]?).getD 0) = _; rw [hg]; rfl] at this
      exact this
    · exact hu
  | agg h1 h2 h3 => exact hu
  | tup h1 h2 h3 => exact hu
  | fn f h1 h2 h3 h4 h5 h6 => exact hu
  | und h1 => exact hu
  | bool b => exact .bool b
  | int k n => exact .int k n
  | str l => exact .str l
  | nilp => exact .nilp
  | fad off h1 h2 h3 h4 => exact .fad off h1 (Reps.data _ (Dat.data _ _) h2) h3 h4
  | nils => exact .nils
  | sln c => exact .sln c
  | slb h1 h2 h3 h4 h5 => exact .slb h1 h2 h3 (fun i x hx => Reps.data _ (Dat.data _ x) (h4 i x hx)) h5
  | st h1 h2 h3 => exact .st (Reps.data _ (Dat.data _ _) h1) h2 h3
  | nilf => exact .nilf
theorem ren1s_sim {Φ : Fz} {g : Gh} {or : List Nat} : ∀ {l : List V} {vs : List Value}, Reps Φ g l vs → Reps Φ (g.of or) (l.map (ren1 or)) vs
  | _, _, .nil => .nil
  | _, _, .cons h t => .cons (ren1_sim h) (ren1s_sim t)
theorem renV_sim {Φ : Fz} {g : Gh} {or : List Nat} {p : V} {v : Value} (h : Rep Φ g p v) : Rep Φ (g.of or) (renV or p) v := by
  cases p with
  | agg l => cases h with
    | agg h1 h2 h3 => exact .agg (ren1s_sim h1) h2 h3
  | tup l => cases h with
    | tup h1 h2 h3 => exact .tup (ren1s_sim h1) h2 h3
  | fn f a c => cases h with
    | fn _ h1 h2 h3 h4 h5 h6 => exact .fn f (ren1s_sim h1) (ren1s_sim h2) h3 h4 h5 h6
  | _ => exact ren1_sim h
theorem renVs_sim {Φ : Fz} {g : Gh} {or : List Nat} : ∀ {l : List V} {vs : List Value}, Reps Φ g l vs → Reps Φ (g.of or) (l.map (renV or)) vs
  | _, _, .nil => .nil
  | _, _, .cons h t => .cons (renV_sim h) (renVs_sim t)
structure Nk (k : Nat) (Φ : Fz) (g : Gh) (os : List PObj) (H : Hp) (Φ' : Fz) (g' : Gh) (os' : List PObj) (H' : Hp) : Prop where
  phi : FLe Φ Φ'
  n : H.n ≤ H'.n
  kn : k ≤ g'.n
  blk : ∀ o, o < k → g'.blk o = g.blk o ∧ g'.vir o = g.vir o
  fr : ∀ b, b < H.n → (∀ (o : Nat) (x : PObj), os[o]? = some x → Lv g o x → g.blk o ≠ b) → H'.b.get b = H.b.get b
  lv : ∀ (o : Nat) (x : PObj), os'[o]? = some x → Lv g' o x → (∃ (p : Nat) (y : PObj), os[p]? = some y ∧ Lv g p y ∧ g.blk p = g'.blk o) ∨ H.n ≤ g'.blk o
  kp : ∀ (o : Nat) (l : List V), o < k → os[o]? = some (PObj.cells l) → ∃ l', os'[o]? = some (PObj.cells l')
  pf : ∀ b x, Φ' b = some x → Φ b = some x ∨ H.n ≤ b ∨ ∃ (p : Nat) (y : PObj), os[p]? = some y ∧ Lv g p y ∧ g.blk p = b
theorem Nk.refl {k : Nat} {Φ : Fz} {g : Gh} {os : List PObj} {H : Hp} (hk : k ≤ g.n) : Nk k Φ g os H Φ g os H :=
  ⟨FLe.refl _, Nat.le_refl _, hk, fun _ _ => ⟨rfl, rfl⟩, fun _ _ _ => rfl, fun o x h l => .inl ⟨o, x, h, l, rfl⟩, fun o l _ h => ⟨l, h⟩, fun _ _ h => .inl h⟩
theorem Nl.nk {k : Nat} {Φ Φ' : Fz} {g g' : Gh} {os os' : List PObj} {H H' : Hp} (h : Nl Φ g os H Φ' g' os' H') (hk : k ≤ g.n) : Nk k Φ g os H Φ' g' os' H' :=
  ⟨h.phi, h.n, Nat.le_trans hk h.gle.n, fun o ho => ⟨h.gle.blk o (Nat.lt_of_lt_of_le ho hk), h.gle.vir o (Nat.lt_of_lt_of_le ho hk)⟩, h.fr, h.lv, fun o l _ hl => h.kp o l hl, h.pf⟩
theorem Nk.trans {k : Nat} {Φ Φ1 Φ2 : Fz} {g g1 g2 : Gh} {os os1 os2 : List PObj} {H H1 H2 : Hp} (h : Nk k Φ g os H Φ1 g1 os1 H1) (j : Nk k Φ1 g1 os1 H1 Φ2 g2 os2 H2) : Nk k Φ g os H Φ2 g2 os2 H2 := by
  refine ⟨h.phi.trans j.phi, Nat.le_trans h.n j.n, j.kn, fun o ho => ⟨(j.blk o ho).1.trans (h.blk o ho).1, (j.blk o ho).2.trans (h.blk o ho).2⟩, fun b hb hl => ?_, fun o x ho hx => ?_, fun o l hk ho => ?_, fun b x hb => ?_⟩
  · rw [j.fr b (Nat.lt_of_lt_of_le hb h.n) (fun o x ho hx e => ?_), h.fr b hb hl]
    rcases h.lv o x ho hx with ⟨p, y, h1, h2, h3⟩ | h4
    · exact hl p y h1 h2 (h3.trans e)
    · omega
  · rcases j.lv o x ho hx with ⟨p, y, h1, h2, h3⟩ | h4
    · rcases h.lv p y h1 h2 with ⟨q, z, k1, k2, k3⟩ | k4
      · exact .inl ⟨q, z, k1, k2, k3.trans h3⟩
      · exact .inr (h3 ▸ k4)
    · exact .inr (Nat.le_trans h.n h4)
  · obtain ⟨l1, h1⟩ := h.kp o l hk ho
    exact j.kp o l1 hk h1
  · rcases j.pf b x hb with hb | hb | ⟨p, y, h1, h2, h3⟩
    · exact h.pf b x hb
    · exact .inr (.inl (Nat.le_trans h.n hb))
    · rcases h.lv p y h1 h2 with ⟨q, z, k1, k2, k3⟩ | k4
      · exact .inr (.inr ⟨q, z, k1, k2, k3.trans h3⟩)
      · exact .inr (.inl (h3 ▸ k4))
theorem cano_sim {k : Nat} {Φ : Fz} {g : Gh} {os os' : List PObj} {H : Hp} {vs vs' : List V} {ws : List Value} (hs : HS Φ g os H) (hk : k ≤ g.n) (hr : Reps Φ g vs ws) (e : cano k vs os = (vs', os')) :
    ∃ g', HS Φ g' os' H ∧ Reps Φ g' vs' ws ∧ Nk k Φ g os H Φ g' os' H := by
  unfold cano at e
  dsimp only at e
  obtain ⟨hnd, hord⟩ := ordO_spec k vs os
  generalize ordO k vs os = or at hnd hord e
  cases e
  have hget : ∀ (j : Nat) (x : PObj), (or.map fun o => match nth os o with | some x => renO or x | none => .dead)[j]? = some x → x ≠ .dead → ∃ o y, or[j]? = some o ∧ os[o]? = some y ∧ x = renO or y := fun j x hx hd => by
    rw [List.getElem?_map] at hx
    cases ho : or[j]? with
    | none => rw [ho] at hx; cases hx
    | some o =>
      rw [ho] at hx
      simp only [Option.map_some, Option.some.injEq] at hx
      cases hy : nth os o with
      | none => rw [hy] at hx; exact absurd hx.symm hd
      | some y => rw [hy] at hx; exact ⟨o, y, rfl, nth_some hy, hx.symm⟩
  have hblk : ∀ {j o : Nat}, or[j]? = some o → (g.of or).blk j = g.blk o ∧ (g.of or).vir j = g.vir o ∧ (g.of or).cap j = g.cap o ∧ (g.of or).len j = g.len o ∧ (g.of or).es j = g.es o := fun {j o} h => by
    refine ⟨?_, ?_, ?_, ?_, ?_⟩ <;> (simp only [Gh.of]; rw [h]; rfl)
  have hlv : ∀ {j o : Nat} {y : PObj}, or[j]? = some o → Lv (g.of or) j (renO or y) → Lv g o y := fun {j o y} h hl => by
    obtain ⟨h1, h2⟩ := hl
    refine ⟨?_, (hblk h).2.1.symm.trans h2⟩
    cases y with
    | cells l => trivial
    | arr k l => trivial
    | frz k l => exact h1
    | dead => exact h1
  refine ⟨g.of or, ⟨by simp [Gh.of], fun j x hx => ?_, fun j p x y hx hy lx ly hb => ?_, hs.phi⟩, renVs_sim hr, ⟨FLe.refl _, Nat.le_refl _, ?_, fun o ho => ?_, fun _ _ _ => rfl, fun j x hx lx => ?_, fun o l ho hl => ?_, fun _ _ h => .inl h⟩⟩
  · by_cases hd : x = .dead
    · subst hd; trivial
    obtain ⟨o, y, h1, h2, rfl⟩ := hget j x hx hd
    obtain ⟨b1, b2, b3, b4, b5⟩ := hblk h1
    have ho := hs.ob o y h2
    cases y with
    | cells l =>
      obtain ⟨hv, q1, q2, c, n, z, t, q3, q4, q5⟩ := ho
      show ObjR Φ (g.of or) H j (.cells (l.map (renV or)))
      unfold ObjR
      rw [b1, b2]
      refine ⟨hv, q1, q2, c, n, z, t, q3, by rw [List.length_map]; exact q4, fun i p hp => ?_⟩
      rw [List.getElem?_map] at hp
      cases hi : l[i]? with
      | none => rw [hi] at hp; cases hp
      | some p0 =>
        rw [hi] at hp
        cases hp
        obtain ⟨v, w1, w2, w3⟩ := q5 i p0 hi
        exact ⟨v, w1, renV_sim w2, w3⟩
    | arr k l =>
      obtain ⟨a1, a2, h⟩ := ho
      show ObjR Φ (g.of or) H j (.arr k l)
      unfold ObjR
      rw [b1, b2, b3, b4, b5]
      refine ⟨a1, a2, ?_⟩
      rcases h with h | ⟨hv, q1, q2, a3, c, n, z, t, q3, q4, q5, q6⟩
      · exact .inl h
      · exact .inr ⟨hv, q1, q2, a3, c, n, z, t, q3, q4, q5, q6.data _⟩
    | frz k l =>
      obtain ⟨a1, a2, h⟩ := ho
      show ObjR Φ (g.of or) H j (.frz k l)
      unfold ObjR
      rw [b1, b2, b3, b4, b5]
      refine ⟨a1, a2, ?_⟩
      rcases h with h | ⟨hv, a3, c, n, z, t, r, q3, q4, q5⟩
      · exact .inl h
      · exact .inr ⟨hv, a3, c, n, z, t, r, q3, q4, q5.data _⟩
    | dead => trivial
  · have dx : x ≠ .dead := fun e => by subst e; exact lx.1
    have dy : y ≠ .dead := fun e => by subst e; exact ly.1
    obtain ⟨o, x0, h1, h2, rfl⟩ := hget j x hx dx
    obtain ⟨p0, y0, k1, k2, rfl⟩ := hget p y hy dy
    rw [(hblk h1).1, (hblk k1).1] at hb
    have := hs.inj o p0 x0 y0 h2 k2 (hlv h1 lx) (hlv k1 ly) hb
    subst this
    have hj := (List.getElem?_eq_some_iff.1 h1).1
    have hp := (List.getElem?_eq_some_iff.1 k1).1
    have e1 := (List.getElem?_eq_some_iff.1 h1).2
    have e2 := (List.getElem?_eq_some_iff.1 k1).2
    exact (List.getElem_inj hnd).1 (e1.trans e2.symm)
  · show k ≤ or.length
    cases k with
    | zero => exact Nat.zero_le _
    | succ k => have := (List.getElem?_eq_some_iff.1 (hord k (by omega))).1; omega
  · have := hblk (hord o ho)
    exact ⟨this.1, this.2.1⟩
  · have dx : x ≠ .dead := fun e => by subst e; exact lx.1
    obtain ⟨o, x0, h1, h2, rfl⟩ := hget j x hx dx
    exact .inl ⟨o, x0, h2, hlv h1 lx, (hblk h1).1.symm⟩
  · refine ⟨l.map (renV or), ?_⟩
    rw [List.getElem?_map, hord o ho]
    show some (match nth os o with | some x => renO or x | none => .dead) = _
    rw [nth_eq, hl]; rfl
theorem virt_new {Φ : Fz} {g : Gh} {os : List PObj} {H : Hp} (hs : HS Φ g os H) (c : Nat) : ∃ g', HS Φ g' (os ++ [.arr c []]) H ∧ Nx Φ g os H Φ g' (os ++ [.arr c []]) H [] ∧ Rep Φ g' (.loc os.length) (.slice none 0 0) := by
  obtain ⟨s1, s2⟩ := hs.new (x := .arr c []) 0 0 0 (Dat.sz c) true (Nat.le_refl _) (fun _ _ => rfl) (fun h => by cases h) ⟨if_pos rfl, if_pos rfl, .inl ⟨if_pos rfl, rfl⟩⟩
  exact ⟨_, s1, s2, .loc0 (by rw [← hs.n]; exact Nat.lt_succ_self _) (by rw [← hs.n]; exact if_pos rfl)⟩
theorem shpC_sim {H : Hp} {o : Nat} : ∀ (l : List (Nat × Nat)) {Φ : Fz} {g : Gh} {os : List PObj}, HS Φ g os H → ∃ g', HS Φ g' (shpC o l os) H ∧ Nl Φ g os H Φ g' (shpC o l os) H
  | [], Φ, g, os, h => ⟨g, h, Nl.refl _ _ _ _⟩
  | (j, c) :: l, Φ, g, os, h => by
    unfold shpC
    split
    · rename_i cs hx
      have hx := nth_some hx
      split
      · rename_i hj
        have hj := nth_some hj
        obtain ⟨g1, k1, k2, k3⟩ := virt_new h c
        have ho := (List.getElem?_eq_some_iff.1 hx).1
        have hx1 : (os ++ [PObj.arr c []])[o]? = some (.cells cs) := by rw [List.getElem?_append_left ho]; exact hx
        obtain ⟨hv, q1, q2, cc, n, z, t, q3, q4, q5⟩ := k1.ob o _ hx1
        obtain ⟨r1, r2⟩ := k1.setO (a := o) (x' := .cells (cs.set j (.loc os.length))) (Φ' := Φ) (H' := H) hx1 ⟨trivial, hv⟩ rfl (FLe.refl _) (fun _ _ => rfl) (fun _ _ => rfl) (fun y hy => by rw [q2] at hy; cases hy)
          ⟨hv, q1, q2, cc, n, z, t, q3, by rw [List.length_set]; exact q4, fun i p hp => by
            rw [List.getElem?_set] at hp
            split at hp
            · rename_i hji
              subst hji
              split at hp
              · cases hp
                obtain ⟨v, w1, w2, w3⟩ := q5 j _ hj
                cases w2
                exact ⟨_, w1, k3, w3⟩
              · cases hp
            · exact q5 i p hp⟩ (fun e => by cases e) (fun _ _ => ⟨_, rfl⟩) [] (fun _ _ => rfl) (fun _ h => by cases h)
        rw [List.set_append_left _ _ ho] at r1 r2
        obtain ⟨g2, m1, m2⟩ := shpC_sim l r1
        exact ⟨g2, m1, k2.weak.trans (r2.weak.trans m2)⟩
      · exact shpC_sim l h
    · exact ⟨g, h, Nl.refl _ _ _ _⟩
theorem frzN_sim {c : Nat} {Φ : Fz} {g : Gh} {os os' : List PObj} {H : Hp} {v v' : V} {w : Value} (h : HS Φ g os H) (hr : Rep Φ g v w) (e : frzN c v os = (v', os')) : ∃ Φ', HS Φ' g os' H ∧ Rep Φ' g v' w ∧ Nx Φ g os H Φ' g os' H [] := by
  unfold frzN at e
  split at e
  · cases e; cases hr; exact ⟨Φ, h, .sln c, Nx.refl _ _ _ _⟩
  · exact frz1_sim h hr e
theorem shpF_sim {g : Gh} {H : Hp} {o : Nat} : ∀ (l : List (Nat × Nat)) {Φ : Fz} {os : List PObj}, HS Φ g os H → ∃ Φ', HS Φ' g (shpF o l os) H ∧ Nl Φ g os H Φ' g (shpF o l os) H
  | [], Φ, os, h => ⟨Φ, h, Nl.refl _ _ _ _⟩
  | (j, c) :: l, Φ, os, h => by
    unfold shpF
    split
    · rename_i cs hx
      have hx := nth_some hx
      split
      · rename_i v hj
        have hj := nth_some hj
        generalize hf : frzN c v os = q
        obtain ⟨v', os1⟩ := q
        dsimp only
        obtain ⟨hv0, q1, q2, cc, n, z, t, q3, q4, q5⟩ := h.ob o _ hx
        obtain ⟨w, w1, w2, w3⟩ := q5 j v hj
        obtain ⟨Φ1, k1, k2, k3⟩ := frzN_sim h w2 hf
        obtain ⟨l1, hx1⟩ := k3.kp o cs hx
        obtain ⟨hv1, j1, j2, _⟩ := k1.ob o _ hx1
        obtain ⟨r1, r2⟩ := k1.setO (a := o) (x' := .cells (cs.set j v')) (Φ' := Φ1) (H' := H) hx1 ⟨trivial, hv1⟩ rfl (FLe.refl _) (fun _ _ => rfl) (fun _ _ => rfl) (fun y hy => by rw [j2] at hy; cases hy)
          ⟨hv1, j1, j2, cc, n, z, t, q3, by rw [List.length_set]; exact q4, fun i p hp => by
            rw [List.getElem?_set] at hp
            split at hp
            · rename_i hji
              subst hji
              split at hp
              · cases hp
                exact ⟨w, w1, k2, w3⟩
              · cases hp
            · obtain ⟨u, u1, u2, u3⟩ := q5 i p hp
              exact ⟨u, u1, u2.mono k3.phi (GLe.refl _), u3⟩⟩ (fun e => by cases e) (fun _ _ => ⟨_, rfl⟩) [] (fun _ _ => rfl) (fun _ h => by cases h)
        obtain ⟨Φ2, m1, m2⟩ := shpF_sim l r1
        exact ⟨Φ2, m1, k3.weak.trans (r2.weak.trans m2)⟩
      · exact shpF_sim l h
    · exact ⟨Φ, h, Nl.refl _ _ _ _⟩
theorem shp1_sim {Φ : Fz} {g : Gh} {os os' : List PObj} {H : Hp} {p : Shp} {v v' : V} {w : Value} (h : HS Φ g os H) (hr : Rep Φ g v w) (e : shp1 p v os = (v', os')) : ∃ Φ' g', HS Φ' g' os' H ∧ Rep Φ' g' v' w ∧ Nl Φ g os H Φ' g' os' H := by
  have hsame : ∀ {u : V}, (u, os) = (v', os') → Rep Φ g u w → ∃ Φ' g', HS Φ' g' os' H ∧ Rep Φ' g' v' w ∧ Nl Φ g os H Φ' g' os' H := fun {u} e hu => by
    cases e; exact ⟨Φ, g, h, hu, Nl.refl _ _ _ _⟩
  unfold shp1 at e
  split at e
  · exact hsame e hr
  · obtain ⟨Φ1, k1, k2, k3⟩ := frzN_sim h hr e
    exact ⟨Φ1, g, k1, k2, k3.weak⟩
  · split at e
    · rename_i c _
      cases hr
      cases e
      obtain ⟨g1, k1, k2, k3⟩ := virt_new h c
      exact ⟨Φ, g1, k1, k3, k2.weak⟩
    · exact hsame e hr
  · split at e
    · rename_i l _ o q
      cases e
      obtain ⟨g1, k1, k2⟩ := shpC_sim l h
      exact ⟨Φ, g1, k1, hr.mono k2.phi k2.gle, k2⟩
    · exact hsame e hr
  · split at e
    · rename_i l _ o q
      cases e
      obtain ⟨Φ1, k1, k2⟩ := shpF_sim l h
      exact ⟨Φ1, g, k1, hr.mono k2.phi k2.gle, k2⟩
    · exact hsame e hr
theorem shape_sim {H : Hp} {T : Tr Value} {e : PEnv} : ∀ (l : List Slot) {Φ : Fz} {g : Gh} {os os' : List PObj} {vs : List V}, HS Φ g os H → (∀ t, Rep Φ g (e t) (slotV T t)) → shape e l os = (vs, os') → ∃ Φ' g', HS Φ' g' os' H ∧ Reps Φ' g' vs (l.map fun p => slotV T p.1) ∧ Nl Φ g os H Φ' g' os' H
  | [], Φ, g, os, os', vs, h, _, he => by
    have he : (([] : List V), os) = (vs, os') := he
    cases he; exact ⟨Φ, g, h, .nil, Nl.refl _ _ _ _⟩
  | p :: l, Φ, g, os, os', vs, h, ht, he => by
    unfold shape at he
    generalize h1 : shp1 p.2 (e p.1) os = q at he
    obtain ⟨v, os1⟩ := q
    dsimp only at he
    generalize h2 : shape e l os1 = q2 at he
    obtain ⟨vs1, os2⟩ := q2
    cases he
    obtain ⟨Φ1, g1, k1, k2, k3⟩ := shp1_sim h (ht p.1) h1
    obtain ⟨Φ2, g2, r1, r2, r3⟩ := shape_sim l k1 (fun t => (ht t).mono k3.phi k3.gle) h2
    exact ⟨Φ2, g2, r1, .cons (k2.mono r3.phi r3.gle) r2, k3.trans r3⟩
theorem head_sim {k : Nat} {Φ : Fz} {g : Gh} {s : PSt} {T : Tr Value} {H : Hp} {l : List Slot} {vs : List V} {os' : List PObj} (RS0 : RS Φ g s.env s.os T H) (hk : k ≤ g.n) (e : head k l s = (vs, os')) :
    ∃ Φ' g', HS Φ' g' os' H ∧ Reps Φ' g' vs (l.map fun p => slotV T p.1) ∧ Nk k Φ g s.os H Φ' g' os' H := by
  unfold head at e
  generalize h1 : shape s.env l s.os = q at e
  obtain ⟨vs1, os1⟩ := q
  obtain ⟨Φ1, g1, k1, k2, k3⟩ := shape_sim l RS0.hs RS0.tm h1
  obtain ⟨g2, r1, r2, r3⟩ := cano_sim k1 (Nat.le_trans hk k3.gle.n) k2 e
  exact ⟨Φ1, g2, r1, r2, (k3.nk hk).trans r3⟩
end Go.Pv
namespace Go.Pv
open Go Go.EvM
set_option linter.unusedVariables false
set_option linter.unusedSectionVars false
variable [Dat] {cx : Cx} {tb : TypeId → Option TB} {R : Type}
noncomputable def dCall (cx : Cx) (m : Nat) : Caller := evDef cx (evFun cx m) m
def CodeTo (cx : Cx) (n k : Nat) (c : Code) (s : PSt) (ex : Ex) (s' : PSt) : Prop :=
  ∃ N, ∀ m, N ≤ m → ∀ (Φ : Fz) (g : Gh) (T : Tr Value) (H : Hp), k ≤ g.n → RS Φ g s.env s.os T H →
    ∃ T' H' Φ' g', evCode cx (evFun cx m) (dCall cx m) m c ⟨n, T, [], H⟩ = .ok ex ⟨n, T', [], H'⟩ ∧ RS Φ' g' s'.env s'.os T' H' ∧ Nk k Φ g s.os H Φ' g' s'.os H'
def onward (kn : K R) (kx : Nat → K R) (kr : K R) : Ex → K R
  | .norm => kn
  | .exit i => kx i
  | .ret => kr
noncomputable def vals (T : Tr Value) (l : List Slot) : List Value := l.map fun p => slotV T p.1
def LoopSem (cx : Cx) (n k : Nat) (body : Code) (L : LoopH R) : Prop :=
  ∀ vs os kx kr r, L.run vs os kx kr = some r → ∃ (ex : Ex) (lo : List Slot) (vs' : List V) (os' : List PObj),
    ((∃ i, ex = .exit i ∧ lo = L.lo ∧ kx i vs' os' = some r) ∨ (ex = .ret ∧ lo = L.lr ∧ kr vs' os' = some r)) ∧
    ∃ N, ∀ m, N ≤ m → ∀ (Φ : Fz) (g : Gh) (T : Tr Value) (H : Hp), k ≤ g.n → HS Φ g os H → (∀ t, f3 (slotV T t) = true) → Reps Φ g vs (vals T L.ls) →
      ∃ T' H' Φ' g', evCode cx (evFun cx m) (dCall cx m) m (.loop body) ⟨n, T, [], H⟩ = .ok ex ⟨n, T', [], H'⟩ ∧ HS Φ' g' os' H' ∧ (∀ t, f3 (slotV T' t) = true) ∧ Reps Φ' g' vs' (vals T' lo) ∧ Nk k Φ g os H Φ' g' os' H'
def CodeFit (cx : Cx) (n k : Nat) (c : Code) : List (LoopH R) → Prop :=
  Code.rec (motive := fun _ => List (LoopH R) → Prop) (fun _ => True) (fun _ ops d _ => d = true → sameM cx ops.toList) (fun a _ ia ib L => ia L ∧ ib (L.drop (nLoops a))) (fun _ a _ ia ib L => ia L ∧ ib (L.drop (nLoops a))) (fun _ _ ia L => ia L)
    (fun body _ L => ∀ X L', L = X :: L' → LoopSem cx n k body X) (fun _ _ _ _ _ _ _ => True) (fun _ _ => True) (fun _ ia L => ia L) (fun _ _ => True) (fun _ _ => True) (fun _ => True) (fun _ _ => True) c
theorem mkEnv_rep {Φ : Fz} {g : Gh} {T : Tr Value} (h3 : ∀ t, f3 (slotV T t) = true) : ∀ {ls : List Slot} {vs : List V}, Reps Φ g vs (vals T ls) → ∀ t, Rep Φ g (mkEnv ls vs t) (slotV T t)
  | [], _, .nil, t => .und (h3 t)
  | x :: ls, _, .cons (l := vs) h hs, t => by
    show Rep Φ g (bif Nat.beq t x.1 then _ else mkEnv ls _ t) (slotV T t)
    cases hx : Nat.beq t x.1 with
    | true => rw [Nat.eq_of_beq_eq_true hx]; exact h
    | false => exact mkEnv_rep h3 hs t
theorem code_sim (C : PvOk cx tb) {G : FuncId → PSem R} (HG : ∀ f, SemOK cx f (G f)) {n k : Nat} (c : Code) : ∀ {L : List (LoopH R)} {kn : K R} {kx : Nat → K R} {kr : K R} {s : PSt} {r : R}, CodeFit cx n k c L → pCode tb G k n c L kn kx kr s = some r →
    ∃ ex s', onward kn kx kr ex s' = some r ∧ CodeTo cx n k c s ex s' := by
  induction c with
  | skip => exact fun _ h => ⟨.norm, _, h, 0, fun m _ Φ g T H hk RS0 => ⟨T, H, Φ, g, rfl, RS0, Nk.refl hk⟩⟩
  | region id ops draw =>
    intro L kn kx kr s r hf h
    cases draw with
    | false =>
      obtain ⟨s', h1, N, h2⟩ := ops_sim C HG ops.toList (show pOps tb G n ops.toList ops.toList kn s = some r from h)
      refine ⟨.norm, s', h1, N, fun m hm Φ g T H hk RS0 => ?_⟩
      obtain ⟨T', H', Φ', g', k1, k2, k3⟩ := h2 m hm Φ g T H RS0
      refine ⟨T', H', Φ', g', ?_, k2, k3.nk hk⟩
      show (match runOps cx (evFun cx m) ops.toList ops.toList ⟨n, T, [], H⟩ with | .ok s => CR.ok .norm s | .no => .no) = _
      have k1 : runOps cx (evFun cx m) ops.toList ops.toList ⟨n, T, [], H⟩ = .ok ⟨n, T', [], H'⟩ := k1
      rw [k1]
    | true =>
      obtain ⟨s', h1, N, h2⟩ := draw_sim C HG (hf rfl) (show pDraw tb G n ops.toList kn s = some r from h)
      refine ⟨.norm, s', h1, N, fun m hm Φ g T H hk RS0 => ?_⟩
      obtain ⟨T', H', Φ', g', k1, k2, k3⟩ := h2 m hm Φ g T H RS0
      refine ⟨T', H', Φ', g', ?_, k2, k3.nk hk⟩
      show (match runDraw cx (evFun cx m) ops.toList ⟨n, T, [], H⟩ with | .ok s => CR.ok .norm s | .no => .no) = _
      have k1 : runDraw cx (evFun cx m) ops.toList ⟨n, T, [], H⟩ = .ok ⟨n, T', [], H'⟩ := k1
      rw [k1]
  | seq a b iha ihb =>
    intro L kn kx kr s r hf h
    obtain ⟨ex, s1, h1, N1, h2⟩ := iha hf.1 (show pCode tb G k n a L (pCode tb G k n b (L.drop (nLoops a)) kn kx kr) kx kr s = some r from h)
    have hev : ∀ m T H, evCode cx (evFun cx m) (dCall cx m) m (.seq a b) ⟨n, T, [], H⟩ = (match evCode cx (evFun cx m) (dCall cx m) m a ⟨n, T, [], H⟩ with | .ok .norm s => evCode cx (evFun cx m) (dCall cx m) m b s | r => r) := fun _ _ _ => rfl
    cases ex with
    | norm =>
      obtain ⟨ex, s', h3, N2, h4⟩ := ihb hf.2 h1
      refine ⟨ex, s', h3, max N1 N2, fun m hm Φ g T H hk RS0 => ?_⟩
      obtain ⟨T1, H1, Φ1, g1, k1, k2, k3⟩ := h2 m (by omega) Φ g T H hk RS0
      obtain ⟨T2, H2, Φ2, g2, r1, r2, r3⟩ := h4 m (by omega) Φ1 g1 T1 H1 k3.kn k2
      exact ⟨T2, H2, Φ2, g2, by rw [hev, k1]; exact r1, r2, k3.trans r3⟩
    | exit i =>
      refine ⟨.exit i, s1, h1, N1, fun m hm Φ g T H hk RS0 => ?_⟩
      obtain ⟨T1, H1, Φ1, g1, k1, k2⟩ := h2 m hm Φ g T H hk RS0
      exact ⟨T1, H1, Φ1, g1, by rw [hev, k1], k2⟩
    | ret =>
      refine ⟨.ret, s1, h1, N1, fun m hm Φ g T H hk RS0 => ?_⟩
      obtain ⟨T1, H1, Φ1, g1, k1, k2⟩ := h2 m hm Φ g T H hk RS0
      exact ⟨T1, H1, Φ1, g1, by rw [hev, k1], k2⟩
  | cond c a b iha ihb =>
    intro L kn kx kr s r hf h
    obtain ⟨t, e', h1, h2, h3⟩ := choose_sim (show choose s.env c (fun t e => bif t then pCode tb G k n a L kn kx kr ⟨e, s.os⟩ else pCode tb G k n b (L.drop (nLoops a)) kn kx kr ⟨e, s.os⟩) = some r from h)
    have hok : ∀ {Φ : Fz} {g : Gh} {T : Tr Value} {H : Hp}, RS Φ g s.env s.os T H → evO T c = .bool t := fun {Φ g T H} RS0 => by
      cases c with
      | tmp x =>
        have := RS0.tm x
        rw [show s.env x = .bool t from h2] at this
        show slotV T x = _
        generalize slotV T x = u at this
        cases this; rfl
      | const v =>
        have h2 : ofVal 4 v = .bool t := h2
        show v = _
        cases v with
        | bool b => cases h2; rfl
        | slice a l c =>
          cases a with
          | some a => cases h2
          | none => cases l with
            | succ l => cases h2
            | zero => cases c <;> cases h2
        | pointer a => cases a <;> cases h2
        | _ => cases h2
      | global x => cases h2
      | func f => cases h2
    have hev : ∀ m T H, evCode cx (evFun cx m) (dCall cx m) m (.cond c a b) ⟨n, T, [], H⟩ = (match evO T c with | .bool true => evCode cx (evFun cx m) (dCall cx m) m a ⟨n, T, [], H⟩ | .bool false => evCode cx (evFun cx m) (dCall cx m) m b ⟨n, T, [], H⟩ | _ => .no) := fun _ _ _ => rfl
    cases t with
    | true =>
      obtain ⟨ex, s', h4, N, h5⟩ := iha hf.1 h1
      refine ⟨ex, s', h4, N, fun m hm Φ g T H hk RS0 => ?_⟩
      obtain ⟨T1, H1, Φ1, g1, k1, k2⟩ := h5 m hm Φ g T H hk (h3.rs RS0)
      exact ⟨T1, H1, Φ1, g1, by rw [hev, hok RS0]; exact k1, k2⟩
    | false =>
      obtain ⟨ex, s', h4, N, h5⟩ := ihb hf.2 h1
      refine ⟨ex, s', h4, N, fun m hm Φ g T H hk RS0 => ?_⟩
      obtain ⟨T1, H1, Φ1, g1, k1, k2⟩ := h5 m hm Φ g T H hk (h3.rs RS0)
      exact ⟨T1, H1, Φ1, g1, by rw [hev, hok RS0]; exact k1, k2⟩
  | block id a iha =>
    intro L kn kx kr s r hf h
    obtain ⟨ex, s1, h1, N, h2⟩ := iha hf (show pCode tb G k n a L kn (fun i => bif Nat.beq i id then kn else kx i) kr s = some r from h)
    have hev : ∀ m T H, evCode cx (evFun cx m) (dCall cx m) m (.block id a) ⟨n, T, [], H⟩ = (match evCode cx (evFun cx m) (dCall cx m) m a ⟨n, T, [], H⟩ with | .ok (.exit i) s => (bif Nat.beq i id then CR.ok .norm s else .ok (.exit i) s) | r => r) := fun _ _ _ => rfl
    cases ex with
    | norm =>
      refine ⟨.norm, s1, h1, N, fun m hm Φ g T H hk RS0 => ?_⟩
      obtain ⟨T1, H1, Φ1, g1, k1, k2⟩ := h2 m hm Φ g T H hk RS0
      exact ⟨T1, H1, Φ1, g1, by rw [hev, k1], k2⟩
    | ret =>
      refine ⟨.ret, s1, h1, N, fun m hm Φ g T H hk RS0 => ?_⟩
      obtain ⟨T1, H1, Φ1, g1, k1, k2⟩ := h2 m hm Φ g T H hk RS0
      exact ⟨T1, H1, Φ1, g1, by rw [hev, k1], k2⟩
    | exit i =>
      have h1 : (bif Nat.beq i id then kn else kx i) s1 = some r := h1
      cases hi : Nat.beq i id with
      | true =>
        rw [hi] at h1
        refine ⟨.norm, s1, h1, N, fun m hm Φ g T H hk RS0 => ?_⟩
        obtain ⟨T1, H1, Φ1, g1, k1, k2⟩ := h2 m hm Φ g T H hk RS0
        exact ⟨T1, H1, Φ1, g1, by rw [hev, k1]; dsimp only; rw [hi]; rfl, k2⟩
      | false =>
        rw [hi] at h1
        refine ⟨.exit i, s1, h1, N, fun m hm Φ g T H hk RS0 => ?_⟩
        obtain ⟨T1, H1, Φ1, g1, k1, k2⟩ := h2 m hm Φ g T H hk RS0
        exact ⟨T1, H1, Φ1, g1, by rw [hev, k1]; dsimp only; rw [hi]; rfl, k2⟩
  | loop body ih =>
    intro L kn kx kr s r hf h
    cases L with
    | nil => cases h
    | cons X L =>
      have h : (match head k X.ls s with
        | (vs, os) => X.run vs os (fun i vs os => kx i ⟨mkEnv X.lo vs, os⟩) (fun vs os => kr ⟨mkEnv X.lr vs, os⟩)) = some r := h
      generalize hca : head k X.ls s = q at h
      obtain ⟨vs, os⟩ := q
      dsimp only at h
      obtain ⟨ex, lo, vs', os', h1, N, h2⟩ := hf X L rfl _ _ _ _ _ h
      refine ⟨ex, ⟨mkEnv lo vs', os'⟩, ?_, N, fun m hm Φ g T H hk RS0 => ?_⟩
      · rcases h1 with ⟨i, rfl, rfl, h1⟩ | ⟨rfl, rfl, h1⟩
        · exact h1
        · exact h1
      · obtain ⟨Φ1, g1, k1, k2, k3⟩ := head_sim RS0 hk hca
        obtain ⟨T', H', Φ', g', r1, r2, r3, r4, r5⟩ := h2 m hm Φ1 g1 T H k3.kn k1 (fun t => (RS0.tm t).f3) k2
        exact ⟨T', H', Φ', g', r1, ⟨mkEnv_rep r3 r4, r2⟩, k3.trans r5⟩
  | rangeFunc f ps x y => exact fun _ h => by cases h
  | exit id => exact fun _ h => ⟨.exit id, _, h, 0, fun m _ Φ g T H hk RS0 => ⟨T, H, Φ, g, rfl, RS0, Nk.refl hk⟩⟩
  | scope a iha =>
    intro L kn kx kr s r hf h
    obtain ⟨ex, s1, h1, N, h2⟩ := iha hf (show pCode tb G k n a L kn kx kr s = some r from h)
    exact ⟨ex, s1, h1, N, h2⟩
  | label l => exact fun _ h => ⟨.norm, _, h, 0, fun m _ Φ g T H hk RS0 => ⟨T, H, Φ, g, rfl, RS0, Nk.refl hk⟩⟩
  | goto l => exact fun _ h => by cases h
  | ret => exact fun _ h => ⟨.ret, _, h, 0, fun m _ Φ g T H hk RS0 => ⟨T, H, Φ, g, rfl, RS0, Nk.refl hk⟩⟩
  | refuse w => exact fun _ h => by cases h
theorem loop_ok (C : PvOk cx tb) {G : FuncId → PSem R} (HG : ∀ f, SemOK cx f (G f)) {n k : Nat} {ls lo lr : List Slot} {L : List (LoopH R)} {body : Code} (hf : CodeFit cx n k body L) : ∀ m, LoopSem cx n k body ⟨ls, lo, lr, loopP tb G k n ls lo lr L body m⟩ := by
  have main : ∀ (j : Nat) (vs : List V) (os : List PObj) (kx : Nat → List V → List PObj → Option R) (kr : List V → List PObj → Option R) (r : R), loopP tb G k n ls lo lr L body j vs os kx kr = some r → ∃ (ex : Ex) (lx : List Slot) (vs' : List V) (os' : List PObj),
      ((∃ i, ex = .exit i ∧ lx = lo ∧ kx i vs' os' = some r) ∨ (ex = .ret ∧ lx = lr ∧ kr vs' os' = some r)) ∧
      ∃ N, ∀ m, N ≤ m → ∀ q, N ≤ q → ∀ (Φ : Fz) (g : Gh) (T : Tr Value) (H : Hp), k ≤ g.n → HS Φ g os H → (∀ t, f3 (slotV T t) = true) → Reps Φ g vs (vals T ls) →
        ∃ T' H' Φ' g', loopN (evCode cx (evFun cx m) (dCall cx m) m body) q ⟨n, T, [], H⟩ = .ok ex ⟨n, T', [], H'⟩ ∧ HS Φ' g' os' H' ∧ (∀ t, f3 (slotV T' t) = true) ∧ Reps Φ' g' vs' (vals T' lx) ∧ Nk k Φ g os H Φ' g' os' H' := by
    intro j
    induction j with
    | zero => intro vs os kx kr r h; cases h
    | succ j ih =>
      intro vs os kx kr r h
      have h : pCode tb G k n body L (fun s => match head k ls s with | (vs, os) => loopP tb G k n ls lo lr L body j vs os kx kr)
        (fun i s => match head k lo s with | (vs, os) => kx i vs os) (fun s => match head k lr s with | (vs, os) => kr vs os) ⟨mkEnv ls vs, os⟩ = some r := h
      obtain ⟨ex, s1, h1, N1, h2⟩ := code_sim C HG body hf h
      have hl : ∀ f q s, loopN f (q + 1) s = (match f s with | .ok .norm s => loopN f q s | r => r) := fun _ _ _ => rfl
      cases ex with
      | norm =>
        have h1 : (match head k ls s1 with | (vs, os) => loopP tb G k n ls lo lr L body j vs os kx kr) = some r := h1
        generalize hca : head k ls s1 = w at h1
        obtain ⟨vs1, os1⟩ := w
        dsimp only at h1
        obtain ⟨ex, lx, vs', os', h3, N2, h4⟩ := ih vs1 os1 kx kr r h1
        refine ⟨ex, lx, vs', os', h3, max N1 N2 + 1, fun m hm q hq Φ g T H hk hs h3 hr => ?_⟩
        obtain ⟨T1, H1, Φ1, g1, k1, k2, k3⟩ := h2 m (by omega) Φ g T H hk ⟨mkEnv_rep h3 hr, hs⟩
        obtain ⟨Φc, g2, c1, c2, c3⟩ := head_sim k2 k3.kn hca
        obtain ⟨q, rfl⟩ : ∃ p, q = p + 1 := ⟨q - 1, by omega⟩
        obtain ⟨T2, H2, Φ2, g3, r1, r2, r3, r4, r5⟩ := h4 m (by omega) q (by omega) Φc g2 T1 H1 c3.kn c1 (fun t => (k2.tm t).f3) c2
        exact ⟨T2, H2, Φ2, g3, by rw [hl, k1]; exact r1, r2, r3, r4, k3.trans (c3.trans r5)⟩
      | exit i =>
        have h1 : (match head k lo s1 with | (vs, os) => kx i vs os) = some r := h1
        generalize hca : head k lo s1 = w at h1
        obtain ⟨vs1, os1⟩ := w
        refine ⟨.exit i, lo, vs1, os1, .inl ⟨i, rfl, rfl, h1⟩, N1 + 1, fun m hm q hq Φ g T H hk hs h3 hr => ?_⟩
        obtain ⟨T1, H1, Φ1, g1, k1, k2, k3⟩ := h2 m (by omega) Φ g T H hk ⟨mkEnv_rep h3 hr, hs⟩
        obtain ⟨Φc, g2, c1, c2, c3⟩ := head_sim k2 k3.kn hca
        obtain ⟨q, rfl⟩ : ∃ p, q = p + 1 := ⟨q - 1, by omega⟩
        exact ⟨T1, H1, Φc, g2, by rw [hl, k1], c1, (fun t => (k2.tm t).f3), c2, k3.trans c3⟩
      | ret =>
        have h1 : (match head k lr s1 with | (vs, os) => kr vs os) = some r := h1
        generalize hca : head k lr s1 = w at h1
        obtain ⟨vs1, os1⟩ := w
        refine ⟨.ret, lr, vs1, os1, .inr ⟨rfl, rfl, h1⟩, N1 + 1, fun m hm q hq Φ g T H hk hs h3 hr => ?_⟩
        obtain ⟨T1, H1, Φ1, g1, k1, k2, k3⟩ := h2 m (by omega) Φ g T H hk ⟨mkEnv_rep h3 hr, hs⟩
        obtain ⟨Φc, g2, c1, c2, c3⟩ := head_sim k2 k3.kn hca
        obtain ⟨q, rfl⟩ : ∃ p, q = p + 1 := ⟨q - 1, by omega⟩
        exact ⟨T1, H1, Φc, g2, by rw [hl, k1], c1, (fun t => (k2.tm t).f3), c2, k3.trans c3⟩
  intro j vs os kx kr r h
  obtain ⟨ex, lx, vs', os', h1, N, h2⟩ := main j vs os kx kr r h
  exact ⟨ex, lx, vs', os', h1, N, fun m hm Φ g T H hk hs h3 hr => h2 m hm m hm Φ g T H hk hs h3 hr⟩
end Go.Pv
namespace Go.Pv
open Go Go.EvM
set_option linter.unusedVariables false
set_option linter.unusedSectionVars false
variable [Dat] {cx : Cx} {tb : TypeId → Option TB} {R : Type}
def dataR (v : V) : Prop := dataV v = true ∨ ∃ l, v = .tup l ∧ l.all dataV = true
theorem Rep.dataR {Φ : Fz} {g : Gh} (g' : Gh) {p : V} {v : Value} (h : dataR p) (hr : Rep Φ g p v) : Rep Φ g' p v := by
  rcases h with h | ⟨l, rfl, h⟩
  · exact Rep.dataV g' h hr
  · cases hr with
    | tup h1 h2 h3 =>
      refine .tup ?_ h2 h3
      clear h2 h3
      rename_i vs
      induction l generalizing vs with
      | nil => cases h1; exact .nil
      | cons p l ih =>
        cases h1 with
        | cons a b =>
          rw [List.all_cons, Bool.and_eq_true] at h
          exact .cons (Rep.dataV g' h.1 a) (ih h.2 b)
def outV (ws : List Value) : Value :=
  match ws with
  | [v] => v
  | ws => .tuple ⟨ws⟩
theorem outV_two {ws : List Value} (h : ws.length ≠ 1) : outV ws = .tuple ⟨ws⟩ := by
  unfold outV
  split
  · exact absurd rfl h
  · rfl
theorem evOut_ok {cx : Cx} {rs : List ResultVar} {T : Tr Value} {H : Hp} {ws : List Value} (h : evRes cx T H rs = some ws) : evOut cx rs T H = .ok (outV ws) H := by
  unfold evOut
  rw [h]
  cases ws with
  | nil => rfl
  | cons a l => cases l <;> rfl
theorem Rep.argV {Φ : Fz} {g : Gh} (g' : Gh) {p : V} {v : Value} (h : argV p = true) (hr : Rep Φ g p v) : Rep Φ g' p v := by
  cases p with
  | fn f a c =>
    cases a with
    | cons => cases h
    | nil => cases c with
      | cons => cases h
      | nil => cases hr with
        | fn _ h1 h2 h3 h4 h5 h6 => cases h1; cases h2; exact .fn f .nil .nil h3 h4 h5 h6
  | _ => exact Rep.dataV g' h hr
theorem dataV_f2 {Φ : Fz} {g : Gh} {p : V} {v : Value} (h : dataV p = true) (hr : Rep Φ g p v) : f2 v = true := by
  cases hr with
  | tup h1 h2 h3 => cases h
  | und h1 => cases h
  | st h1 h2 h3 => simp [f2, List.all_eq_true]; exact .inr ⟨h3, h2⟩
  | agg h1 h2 h3 => simp [f2, List.all_eq_true]; exact .inr ⟨h3, h2⟩
  | fn f h1 h2 h3 h4 h5 h6 => cases h
  | _ => rfl
theorem res_sim (C : PvOk cx tb) {s : PSt} {Φ : Fz} {g : Gh} {T : Tr Value} {H : Hp} (RS0 : RS Φ g s.env s.os T H) : ∀ (rs : List ResultVar) (l : List V), pRes tb s rs = some l → ∃ ws, evRes cx T H rs = some ws ∧ Reps Φ g l ws
  | [], l, h => by
    have h : some [] = some l := h
    cases h; exact ⟨[], rfl, .nil⟩
  | .tmp t :: rs, l, h => by
    have h : (match pRes tb s rs with | some l => some (s.env t :: l) | none => none) = some l := h
    split at h
    · rename_i l' hl
      cases h
      obtain ⟨ws, h1, h2⟩ := res_sim C RS0 rs l' hl
      refine ⟨slotV T t :: ws, ?_, .cons (RS0.tm t) h2⟩
      show (match evRes cx T H rs with | some l => some ((match T.get t with | some v => v | none => undef) :: l) | none => none) = _
      rw [h1]; rfl
    · cases h
  | .cell a t :: rs, l, h => by
    have h : (match tb t with
      | some b => (match s.env a with
        | .ptr o p => (match loadP s.os b.agg b.size (.ptr o p), pRes tb s rs with
          | some v, some l => some (v :: l)
          | _, _ => none)
        | _ => none)
      | none => none) = some l := h
    split at h
    · rename_i b hb
      obtain ⟨i, h1, h2⟩ := C.tb t b hb
      split at h
      · rename_i o p hev
        split at h
        · rename_i v l' hv hl
          cases h
          obtain ⟨ws, r1, r2⟩ := res_sim C RS0 rs l' hl
          have hr := RS0.tm a
          rw [hev] at hr
          generalize hu : slotV T a = u at hr
          cases hr with
          | ptr _ ho =>
            have hga : T.get a = some (.pointer (some ⟨g.blk o, p, none⟩)) := by
              unfold slotV at hu
              split at hu
              · rename_i w hw; rw [hw, hu]
              · cases hu
            unfold loadP at hv
            dsimp only at hv
            split at hv
            · rename_i lc hx
              obtain ⟨qv, _, _, c, n, z, t', q1, q2, q3⟩ := RS0.hs.ob o _ (nth_some hx)
              obtain ⟨vs, m1, m2, m3⟩ := cells_list lc 0 (fun j p hp => by rw [Nat.zero_add]; exact q3 j p hp)
              obtain ⟨w, k1, k2⟩ := ld_core (b := g.blk o) (n := n) (z := z) (t := t') (r := false) b.agg h2.small m1 m2 m3 hv
              have k2 := k2 H q1
              rw [Nat.zero_add] at k2
              refine ⟨w :: ws, ?_, .cons k1 r2⟩
              show (match cx.ti t with
                | some i => (match (match T.get a with | some v => ptrV v | none => none) with
                  | some (b, off) => (match (match isAggB i.desc with | true => loadA H i.size b off | false => load1 H b off), evRes cx T H rs with
                    | some v, some l => some (v :: l)
                    | _, _ => none)
                  | none => none)
                | none => none) = _
              rw [h1]; dsimp only
              rw [hga]; dsimp only [ptrV]
              rw [r1, h2.agg, h2.size]
              have k3 : (match b.agg with | true => loadA H b.size (g.blk o) p | false => load1 H (g.blk o) p) = some w := k2
              rw [k3]
            · cases hv
        · cases h
      · cases h
    · cases h
theorem retype1_sim {Φ : Fz} {g : Gh} {c : Option (Bool × Nat)} {p p' : V} {v : Value} (h : retype1 c p = some p') (hr : Rep Φ g p v) : Rep Φ g p' v := by
  unfold retype1 at h
  split at h
  · cases h; exact hr
  · split at h
    · cases h; cases hr; exact .sln _
    · cases h; exact hr
    · cases h
  · split at h
    · split at h
      · rename_i l x hx
        cases h
        cases hr with
        | agg h1 h2 h3 => exact .st (h1.likes (Dat.mkOk _ _ _ hx)) h2 h3
      · cases h
    · split at h
      · rename_i d x y hy
        cases h
        obtain ⟨vs, m1, m2, m3, m4⟩ := mkE_rep hr hy
        cases hr with
        | st h1 h2 h3 =>
          cases m1
          exact .st m2 m3 m4
      · cases h
    · cases h
theorem retype_sim {Φ : Fz} {g : Gh} : ∀ {c : List (Option (Bool × Nat))} {l l' : List V} {vs : List Value}, retype c l = some l' → Reps Φ g l vs → Reps Φ g l' vs
  | [], l, l', vs, h, hr => by
    have h : some l = some l' := h
    cases h; exact hr
  | c :: r, [], l', vs, h, hr => by
    have h : (none : Option (List V)) = some l' := h
    cases h
  | c :: r, p :: l, l', vs, h, hr => by
    have h : (match retype1 c p, retype r l with | some v, some l => some (v :: l) | _, _ => none) = some l' := h
    split at h
    · rename_i p' l1 h1 h2
      cases h
      cases hr with
      | cons a b => exact .cons (retype1_sim h1 a) (retype_sim h2 b)
    · cases h
theorem frzU_sim {g : Gh} {H : Hp} : ∀ (l : List Nat) {Φ : Fz} {os os' : List PObj}, HS Φ g os H → frzU l os = os' → ∃ Φ', HS Φ' g os' H ∧ Nx Φ g os H Φ' g os' H []
  | [], Φ, os, os', h, e => by
    have e : os = os' := e
    subst e; exact ⟨Φ, h, Nx.refl _ _ _ _⟩
  | o :: l, Φ, os, os', h, e => by
    obtain ⟨Φ1, k1, k2⟩ := frzO_sim (o := o) h rfl
    obtain ⟨Φ2, r1, r2⟩ := frzU_sim l k1 (show frzU l (frzO os o) = os' from e)
    exact ⟨Φ2, r1, k2.nil_trans r2 (fun _ h => by cases h)⟩
theorem argsE_rep {Φ : Fz} {g : Gh} : ∀ {vs : List V} {ws : List Value}, Reps Φ g vs ws → ∀ t, Rep Φ g (argsE vs t) (slotV (Tr.ofL ws) t) := fun {vs ws} h t => by
  unfold argsE slotV
  rw [nth_eq, Tr.get_ofL]
  cases hv : vs[t]? with
  | none =>
    have hl := h.length
    rw [List.getElem?_eq_none_iff] at hv
    rw [List.getElem?_eq_none (by omega)]
    exact .und rfl
  | some p =>
    obtain ⟨w, h1, h2⟩ := h.get hv
    rw [h1]; exact h2
theorem dataO_cells {x : PObj} (h : dataO x = true) : ∃ l, x = .cells l ∧ l.all isData = true := by
  cases x with
  | cells l => exact ⟨l, rfl, h⟩
  | _ => cases h
theorem cells_data {Φ : Fz} {g g' : Gh} {H : Hp} {o j : Nat} {l : List V} (hd : l.all isData = true) (hb : g'.blk j = g.blk o) (hv : g'.vir j = g.vir o) (h : ObjR Φ g H o (.cells l)) : ObjR Φ g' H j (.cells l) := by
  obtain ⟨h0, h1, h2, c, n, z, t, h3, h4, h5⟩ := h
  unfold ObjR
  rw [hb, hv]
  refine ⟨h0, h1, h2, c, n, z, t, h3, h4, fun i p hp => ?_⟩
  obtain ⟨v, e1, e2, e3⟩ := h5 i p hp
  exact ⟨v, e1, Rep.data g' (List.all_eq_true.1 hd p (List.mem_of_getElem? hp)) e2, e3⟩
theorem canon_spec {vs : List V} {os : List PObj} (h : canon vs os = true) : (∀ o, o < os.length → o ∈ ptrsOf vs) ∧ (∀ o ∈ ptrsOf vs, o < os.length) ∧ (∀ x ∈ os, dataO x = true) := by
  unfold canon at h
  simp only [Bool.and_eq_true] at h
  obtain ⟨h1, h2, h3, _⟩ := h
  refine ⟨fun o ho => memN_iff.1 (List.all_eq_true.1 h1 o (upto_mem.2 ho)), fun o ho => ?_, fun x hx => List.all_eq_true.1 h3 x hx⟩
  have := List.all_eq_true.1 h2 o ho
  exact Nat.le_of_ble_eq_true this
theorem fun_sim (C : PvOk cx tb) {G : FuncId → PSem R} (HG : ∀ f, SemOK cx f (G f)) {k : Nat} {L : List (LoopH R)} {rc : List (Option (Bool × Nat))} {f : FuncId} {F : Func} {c : Code} (hfn : cx.fn f = some F) (hext : cx.ext f = none) (hb : F.body = some c) (hfit : CodeFit cx F.ntmps k c L)
    {vs : List V} {os : List PObj} {κ : V → List PObj → Option R} {r : R} (h : pFun tb G k L rc F vs os κ = some r) : ∃ v os', κ v os' = some r ∧ CallOK cx f vs os v os' ∧ dataR v ∧ os'.length = os.length ∧ ∀ x ∈ os', dataO x = true := by
  unfold pFun at h
  rw [hb] at h
  dsimp only at h
  split at h
  rotate_left
  · cases h
  rename_i hq
  rw [Bool.and_eq_true, Bool.and_eq_true] at hq
  have hlen : vs.length ≤ F.ntmps := Nat.le_of_ble_eq_true hq.1
  have hkl := Nat.eq_of_beq_eq_true hq.2.1
  obtain ⟨hc1, hc2, hc3⟩ := canon_spec hq.2.2
  obtain ⟨ex, s', h1, N, h2⟩ := code_sim C HG c hfit h
  have h1 : pRet tb k F.results.toList rc κ s' = some r ∧ (∀ i, ex ≠ .exit i) := by
    cases ex with
    | norm => exact ⟨h1, fun i e => by cases e⟩
    | ret => exact ⟨h1, fun i e => by cases e⟩
    | exit i => cases h1
  obtain ⟨h1, hnx⟩ := h1
  unfold pRet at h1
  split at h1
  rotate_left
  · cases h1
  rename_i l hl
  generalize hfr : frzVL l s'.os = q at h1
  obtain ⟨l1, os1⟩ := q
  dsimp only at h1
  split at h1
  rotate_left
  · cases h1
  rename_i l2 hl2
  cases hd : l2.all dataV && (((frzU (upto k) os1).take k).all dataO && Nat.beq ((frzU (upto k) os1).take k).length k) with
  | false => rw [hd] at h1; cases h1
  | true =>
    rw [hd] at h1
    rw [Bool.and_eq_true, Bool.and_eq_true] at hd
    dsimp only [cond_true] at h1
    have hall : ∀ x ∈ (frzU (upto k) os1).take k, dataO x = true := fun x hx => List.all_eq_true.1 hd.2.1 x hx
    obtain ⟨v, hv1, hv2, hv3⟩ : ∃ v, κ v ((frzU (upto k) os1).take k) = some r ∧ dataR v ∧ ∀ (Φ : Fz) (g : Gh) (ws : List Value), Reps Φ g l2 ws → ∃ w, outV ws = w ∧ Rep Φ g v w := by
      split at h1
      · rename_i v
        refine ⟨v, h1, .inl (by simpa using hd.1), fun Φ g ws hr => ?_⟩
        cases hr with
        | cons a b => cases b; exact ⟨_, rfl, a⟩
      · rename_i hn
        cases hb8 : Nat.ble l2.length 8 with
        | false => rw [hb8] at h1; cases h1
        | true =>
          rw [hb8] at h1
          refine ⟨.tup l2, h1, .inr ⟨l2, rfl, hd.1⟩, fun Φ g ws hr => ?_⟩
          have hle := hr.length
          have hw : outV ws = .tuple ⟨ws⟩ := outV_two fun h1 => by
            cases hr with
            | nil => simp at h1
            | cons a b => cases b with
              | nil => exact hn _ rfl
              | cons => simp at h1
          refine ⟨_, hw, .tup hr (fun u hu => ?_) (by have := Nat.le_of_ble_eq_true hb8; omega)⟩
          obtain ⟨j, hj⟩ := List.getElem?_of_mem hu
          have hjl := (List.getElem?_eq_some_iff.1 hj).1
          have hp := List.getElem?_eq_getElem (l := l2) (i := j) (by omega)
          obtain ⟨u', hu', hru⟩ := hr.get hp
          rw [hj] at hu'
          cases hu'
          exact dataV_f2 (List.all_eq_true.1 hd.1 _ (List.mem_of_getElem? hp)) hru
    refine ⟨v, _, hv1, ⟨N + 1, fun m hm Φ g H ws hs hr => ?_⟩, hv2, ?_, hall⟩
    · obtain ⟨m, rfl⟩ : ∃ j, m = j + 1 := ⟨m - 1, by omega⟩
      have hkg : k = g.n := by rw [hs.n]; exact hkl.symm
      obtain ⟨T', H', Φ1, g1, k1, k2, k3⟩ := h2 m (by omega) Φ g (Tr.ofL ws) H (by omega) ⟨argsE_rep hr, hs⟩
      obtain ⟨ws1, r1, r2⟩ := res_sim C k2 _ _ hl
      obtain ⟨Φ2, q1, q2, q3⟩ := frzVL_sim k2.hs r2 hfr
      have q2 := retype_sim hl2 q2
      obtain ⟨Φ3, u1, u2⟩ := frzU_sim (upto k) q1 rfl
      obtain ⟨w, w1, w2⟩ := hv3 Φ3 g1 ws1 (q2.mono u2.phi (GLe.refl _))
      have hk3 : Nk k Φ g os H Φ3 g1 (frzU (upto k) os1) H' := k3.trans (((q3.weak).nk k3.kn).trans ((u2.weak).nk k3.kn))
      have hosl : k ≤ (frzU (upto k) os1).length := by rw [← u1.n]; exact k3.kn
      have hcell : ∀ (o : Nat) (x : PObj), ((frzU (upto k) os1).take k)[o]? = some x → o < k ∧ (frzU (upto k) os1)[o]? = some x ∧ ∃ l, x = .cells l ∧ l.all isData = true := fun o x hx => by
        have hm := List.mem_of_getElem? hx
        rw [List.getElem?_take] at hx
        split at hx
        · rename_i ho; exact ⟨ho, hx, dataO_cells (hall x hm)⟩
        · cases hx
      have hold : ∀ o, o < k → ∃ l, os[o]? = some (.cells l) := fun o ho => by
        have := List.getElem?_eq_getElem (l := os) (i := o) (by omega)
        obtain ⟨l, hl, _⟩ := dataO_cells (hc3 _ (List.mem_of_getElem? this))
        exact ⟨l, by rw [this, hl]⟩
      refine ⟨w, H', Φ3, ⟨k, g1.blk, g.cap, g.len, g.es, g1.vir⟩, ?_, Rep.dataR _ hv2 w2, ⟨?_, fun o x hx => ?_, fun o p x y hx hy lx ly hb => ?_, u1.phi⟩, ⟨hk3.phi, ⟨by rw [hkg]; exact Nat.le_refl _, fun o ho => (hk3.blk o (by omega)).1, fun _ _ => rfl, fun _ _ => rfl, fun _ _ => rfl, fun o ho => (hk3.blk o (by omega)).2⟩, hk3.n, fun b hb ho => hk3.fr b hb (fun o x hx lx => ho o (hc1 o (List.getElem?_eq_some_iff.1 hx).1) lx.2), fun o x hx lx => ?_, fun o l hl => ?_, fun o ho => ?_, fun o x hx _ _ => ?_, hk3.pf⟩⟩
      · show (match cx.ext f with
          | some e => e ws H
          | none => match cx.fn f with
            | some fn => evBody cx (evFun cx m) (evDef cx (evFun cx m) m) m fn ws H
            | none => .no) = _
        rw [hext]; dsimp only
        rw [hfn]; dsimp only
        unfold evBody
        rw [hb]; dsimp only
        have hen : enterS F ws H = ⟨F.ntmps, Tr.ofL ws, [], H⟩ := by
          unfold enterS
          have hwl := hr.length
          cases hbb : Nat.ble F.ntmps ws.length with
          | true => have := Nat.le_of_ble_eq_true hbb; rw [show ws.length = F.ntmps by omega]; rfl
          | false => rfl
        rw [hen]
        have k1 : evCode cx (evFun cx m) (evDef cx (evFun cx m) m) m c ⟨F.ntmps, Tr.ofL ws, [], H⟩ = .ok ex ⟨F.ntmps, T', [], H'⟩ := k1
        rw [k1]
        have hfin : evOut cx F.results.toList T' H' = .ok w H' := by rw [evOut_ok r1, w1]
        cases ex with
        | exit i => exact absurd rfl (hnx i)
        | norm => exact hfin
        | ret => exact hfin
      · rw [List.length_take]; exact (Nat.min_eq_left hosl).symm
      · obtain ⟨ho, hx2, l, rfl, hdl⟩ := hcell o x hx
        exact cells_data (g := g1) hdl rfl rfl (u1.ob o _ hx2)
      · obtain ⟨ho, hx2, _⟩ := hcell o x hx
        obtain ⟨hp, hy2, _⟩ := hcell p y hy
        exact u1.inj o p x y hx2 hy2 lx ly hb
      · obtain ⟨ho, hx2, _⟩ := hcell o x hx
        obtain ⟨l, hl⟩ := hold o ho
        refine .inl ⟨o, _, hl, ⟨trivial, (hk3.blk o ho).2.symm.trans lx.2⟩, (hk3.blk o ho).1.symm⟩
      · have ho := (List.getElem?_eq_some_iff.1 hl).1
        obtain ⟨l', hl'⟩ := hk3.kp o l (by omega) hl
        exact ⟨l', by rw [List.getElem?_take, if_pos (by omega)]; exact hl'⟩
      · obtain ⟨l, hl⟩ := hold o (by have := hc2 o ho; omega)
        exact ⟨_, hl, fun _ => trivial⟩
      · have ho := (List.getElem?_eq_some_iff.1 hx).1
        obtain ⟨l, hl⟩ := hold o (by omega)
        obtain ⟨l', hl'⟩ := hk3.kp o l (by omega) hl
        exact ⟨_, by rw [List.getElem?_take, if_pos (by omega)]; exact hl', fun e => by cases e⟩
    · rw [Nat.eq_of_beq_eq_true hd.2.2, hkl]
theorem nodupN_spec : ∀ {l : List Nat}, nodupN l = true → l.Nodup
  | [], _ => List.nodup_nil
  | x :: l, h => by
    unfold nodupN at h
    simp only [Bool.and_eq_true, Bool.not_eq_true'] at h
    rw [List.nodup_cons]
    refine ⟨fun hm => ?_, nodupN_spec h.2⟩
    rw [memN_iff.2 hm] at h
    cases h.1
theorem setOs_len : ∀ (l : List Nat) (m os : List PObj), (setOs os l m).length = os.length
  | [], m, os => by cases m <;> rfl
  | o :: l, [], os => rfl
  | o :: l, x :: m, os => by
    show (setOs (os.set o x) l m).length = _
    rw [setOs_len l m, List.length_set]
theorem setOs_out : ∀ {l : List Nat} {m os : List PObj} {p : Nat}, p ∉ l → (setOs os l m)[p]? = os[p]?
  | [], m, os, p, h => by cases m <;> rfl
  | o :: l, [], os, p, h => rfl
  | o :: l, x :: m, os, p, h => by
    show (setOs (os.set o x) l m)[p]? = _
    rw [setOs_out (fun hp => h (by simp [hp])), List.getElem?_set_ne (fun e => h (by simp [e]))]
theorem setOs_in : ∀ {l : List Nat} {m os : List PObj} {j o : Nat}, l.Nodup → m.length = l.length → (∀ o ∈ l, o < os.length) → l[j]? = some o → (setOs os l m)[o]? = m[j]?
  | [], m, os, j, o, _, _, _, h => by simp at h
  | q :: l, [], os, j, o, _, hl, _, h => by simp at hl
  | q :: l, x :: m, os, j, o, hn, hl, hlt, h => by
    rw [List.nodup_cons] at hn
    show (setOs (os.set q x) l m)[o]? = _
    cases j with
    | zero =>
      simp at h; subst h
      rw [setOs_out hn.1, List.getElem?_set_self (hlt q (by simp))]; rfl
    | succ j =>
      rw [setOs_in hn.2 (by simpa using hl) (fun p hp => by rw [List.length_set]; exact hlt p (by simp [hp])) (by simpa using h)]; rfl
theorem idxN_some {x : Nat} : ∀ {l : List Nat}, x ∈ l → ∃ j, idxN x l = some j
  | y :: l, h => by
    unfold idxN
    cases hy : Nat.beq y x with
    | true => exact ⟨0, rfl⟩
    | false =>
      have hx : x ∈ l := by
        rcases List.mem_cons.1 h with rfl | h
        · simp at hy
        · exact h
      obtain ⟨j, hj⟩ := idxN_some hx
      exact ⟨j + 1, by rw [hj]; rfl⟩
def SemC (cx : Cx) (f : FuncId) (F : PSem R) : Prop :=
  ∀ vs os κ r, F vs os κ = some r → ∃ v os', κ v os' = some r ∧ CallOK cx f vs os v os' ∧ dataR v ∧ os'.length = os.length ∧ ∀ x ∈ os', dataO x = true
theorem lift_ok {f : FuncId} {F : PSem R} (h : SemC cx f F) : SemOK cx f (lift F) := by
  intro vs os κ r hr
  unfold lift at hr
  dsimp only at hr
  generalize hor : ptrsOf vs = or at hr
  cases hq : nodupN or && ((getOs os or).all dataO && vs.all fun v => isPtr v || argV v) with
  | false => rw [hq] at hr; cases hr
  | true =>
    rw [hq] at hr
    simp only [Bool.and_eq_true] at hq
    obtain ⟨hn, hob, hvs⟩ := hq
    have hn := nodupN_spec hn
    obtain ⟨v, os', h1, ⟨N, h2⟩, h3, h4, h5⟩ := h _ _ _ _ hr
    refine ⟨v, _, h1, N, fun m hm Φ g H ws hs hrs => ?_⟩
    have hol : ∀ (j o : Nat), or[j]? = some o → ∃ l : List V, os[o]? = some (PObj.cells l) ∧ l.all isData = true ∧ (getOs os or)[j]? = some (PObj.cells l) := fun j o hj => by
      have hg : (getOs os or)[j]? = some (match nth os o with | some x => x | none => .dead) := by
        unfold getOs; rw [List.getElem?_map, hj]; rfl
      obtain ⟨l, e1, e2⟩ := dataO_cells (List.all_eq_true.1 hob _ (List.mem_of_getElem? hg))
      cases hx : nth os o with
      | none => rw [hx] at e1; cases e1
      | some x =>
        rw [hx] at e1 hg
        dsimp only at e1 hg
        subst e1
        exact ⟨l, nth_some hx, e2, hg⟩
    have hgl : (getOs os or).length = or.length := by unfold getOs; rw [List.length_map]
    have hblk : ∀ {j o : Nat}, or[j]? = some o → (g.of or).blk j = g.blk o ∧ (g.of or).vir j = g.vir o := fun {j o} h => by
      refine ⟨?_, ?_⟩ <;> (simp only [Gh.of]; rw [h]; rfl)
    have hcs : HS Φ (g.of or) (getOs os or) H := ⟨by rw [hgl]; rfl, fun j x hx => by
        have hj := List.getElem?_eq_getElem (l := or) (i := j) (by rw [← hgl]; exact (List.getElem?_eq_some_iff.1 hx).1)
        obtain ⟨l, e1, e2, e3⟩ := hol j _ hj
        rw [hx] at e3; cases e3
        exact cells_data e2 (hblk hj).1 (hblk hj).2 (hs.ob _ _ e1), fun i j x y hx hy lx ly hb => by
        have hi := List.getElem?_eq_getElem (l := or) (i := i) (by rw [← hgl]; exact (List.getElem?_eq_some_iff.1 hx).1)
        have hj := List.getElem?_eq_getElem (l := or) (i := j) (by rw [← hgl]; exact (List.getElem?_eq_some_iff.1 hy).1)
        obtain ⟨l, e1, e2, e3⟩ := hol i _ hi
        obtain ⟨l', f1, f2, f3⟩ := hol j _ hj
        rw [(hblk hi).1, (hblk hj).1] at hb
        have := hs.inj _ _ _ _ e1 f1 ⟨trivial, (hblk hi).2.symm.trans lx.2⟩ ⟨trivial, (hblk hj).2.symm.trans ly.2⟩ hb
        exact (List.getElem_inj hn).1 this, hs.phi⟩
    have hcr : ∀ {l : List V} {us : List Value}, (l.all fun v => isPtr v || argV v) = true → Reps Φ g l us → Reps Φ (g.of or) (l.map (canA or)) us := fun {l us} => by
      induction l generalizing us with
      | nil => intro _ h; cases h; exact .nil
      | cons p l ih =>
        intro hd h
        rw [List.all_cons, Bool.and_eq_true] at hd
        cases h with
        | cons a b =>
          refine .cons ?_ (ih hd.2 b)
          by_cases hp : isPtr p = true
          · cases p <;> first | cases hp; done | skip
            exact ren1_sim (or := or) a
          · have e : canA or p = p := by cases p <;> first | rfl | exact absurd rfl hp
            rw [e]
            rw [Bool.or_eq_true] at hd
            exact Rep.argV _ (hd.1.resolve_left hp) a
    obtain ⟨w, H', Φ', g', r1, r2, r3, r4⟩ := h2 m hm Φ (g.of or) H ws hcs (hcr hvs hrs)
    have hgn : or.length = (g.of or).n := rfl
    have hin : ∀ (o : Nat) (x : PObj), o ∈ or → (setOs os or os')[o]? = some x → ∃ (j : Nat) (l : List V), or[j]? = some o ∧ x = .cells l ∧ l.all isData = true ∧ os'[j]? = some (.cells l) ∧ g'.blk j = g.blk o ∧ g'.vir j = g.vir o := fun o x ho hx => by
      obtain ⟨j, hj⟩ := List.getElem?_of_mem ho
      rw [setOs_in hn (by rw [h4, hgl]) (fun p hp => by
        obtain ⟨i, hi⟩ := List.getElem?_of_mem hp
        obtain ⟨l, e1, _⟩ := hol i p hi
        exact (List.getElem?_eq_some_iff.1 e1).1) hj] at hx
      obtain ⟨l, rfl, hd⟩ := dataO_cells (h5 x (List.mem_of_getElem? hx))
      have hjl := (List.getElem?_eq_some_iff.1 hj).1
      exact ⟨j, l, hj, rfl, hd, hx, (r4.gle.blk j hjl).trans (hblk hj).1, (r4.gle.vir j hjl).trans (hblk hj).2⟩
    have hno : ∀ (o : Nat) (x : PObj), o ∉ or → os[o]? = some x → Lv g o x → ∀ p, p ∈ or → g.vir p = false → g.blk p ≠ g.blk o := fun o x ho hx lx p hp hv hb => by
      obtain ⟨i, hi⟩ := List.getElem?_of_mem hp
      obtain ⟨l, e1, _⟩ := hol i p hi
      exact ho (hs.inj p o _ _ e1 hx ⟨trivial, hv⟩ lx hb ▸ hp)
    have hto : ∀ j ∈ ptrsOf (vs.map (canA or)), j < or.length := fun j hj => by
      have : ∀ {l : List V}, j ∈ ptrsOf (l.map (canA or)) → j < or.length := fun {l} => by
        induction l with
        | nil => intro h; cases h
        | cons p l ih =>
          cases p with
          | ptr o off =>
            intro h
            have h : j ∈ ptrsOf ((match idxN o or with | some j => PV.ptr j off | none => .und) :: l.map (canA or)) := h
            split at h
            · rename_i i hi
              rcases List.mem_cons.1 h with rfl | h
              · exact (List.getElem?_eq_some_iff.1 (idxN_spec hi)).1
              · exact ih h
            · exact ih h
          | _ => exact fun h => ih h
      exact this hj
    have hfr : ∀ b, b < H.n → (∀ p ∈ or, g.vir p = false → g.blk p ≠ b) → H'.b.get b = H.b.get b := fun b hb hp => r4.fr b hb fun j hj hv => by
      have hjl := hto j hj
      have hjg := List.getElem?_eq_getElem (l := or) (i := j) hjl
      rw [(hblk hjg).1]
      exact hp _ (List.getElem_mem hjl) ((hblk hjg).2.symm.trans hv)
    have hin2 : ∀ (o : Nat) (x : PObj), (setOs os or os')[o]? = some x → Lv g o x → ∃ y, os[o]? = some y ∧ Lv g o y := fun o x hx lx => by
      by_cases ho : o ∈ or
      · obtain ⟨j, l, hj, _⟩ := hin o x ho hx
        obtain ⟨l', e1, _⟩ := hol j o hj
        exact ⟨_, e1, trivial, lx.2⟩
      · rw [setOs_out ho] at hx
        exact ⟨x, hx, lx⟩
    refine ⟨w, H', Φ', g, r1, Rep.dataR g h3 r2, ⟨by rw [setOs_len]; exact hs.n, fun o x hx => ?_, fun o p x y hx hy lx ly hb => ?_, r3.phi⟩, ⟨r4.phi, GLe.refl _, r4.n, fun b hb ho => hfr b hb (by rw [← hor]; exact ho), fun o x hx lx => ?_, fun o l hl => ?_, fun o ho => ?_, fun o x hx hd _ => ?_, fun b x hb => ?_⟩⟩
    · by_cases ho : o ∈ or
      · obtain ⟨j, l, hj, rfl, hd, e1, e2, e3⟩ := hin o x ho hx
        exact cells_data hd e2.symm e3.symm (r3.ob j _ e1)
      · rw [setOs_out ho] at hx
        refine (hs.ob o x hx).keep r4.phi (GLe.refl _) r4.n (hs.lt hx) fun lx => ⟨hfr _ ((hs.ob o x hx).blk_lt lx).1 (hno o x ho hx lx), ?_⟩
        cases hΦ : Φ' (g.blk o) with
        | none => rfl
        | some y =>
          exfalso
          obtain ⟨b1, b2⟩ := (hs.ob o x hx).blk_lt lx
          rcases r4.pf _ _ hΦ with h | h | ⟨j, z, z1, z2, z3⟩
          · rw [b2] at h; cases h
          · omega
          · have hjl : j < or.length := by rw [← hgl]; exact (List.getElem?_eq_some_iff.1 z1).1
            have hjg := List.getElem?_eq_getElem (l := or) (i := j) hjl
            rw [(hblk hjg).1] at z3
            exact hno o x ho hx lx _ (List.getElem_mem hjl) ((hblk hjg).2.symm.trans z2.2) z3
    · obtain ⟨x', hx', lx'⟩ := hin2 o x hx lx
      obtain ⟨y', hy', ly'⟩ := hin2 p y hy ly
      exact hs.inj o p x' y' hx' hy' lx' ly' hb
    · obtain ⟨y, y1, y2⟩ := hin2 o x hx lx
      exact .inl ⟨o, y, y1, y2, rfl⟩
    · by_cases ho : o ∈ or
      · obtain ⟨j, hj⟩ := List.getElem?_of_mem ho
        have hjl := (List.getElem?_eq_some_iff.1 hj).1
        have hx : (setOs os or os')[o]? = some (os'[j]'(by rw [h4, hgl]; exact hjl)) := by
          rw [setOs_in hn (by rw [h4, hgl]) (fun p hp => by
            obtain ⟨i, hi⟩ := List.getElem?_of_mem hp
            obtain ⟨l, e1, _⟩ := hol i p hi
            exact (List.getElem?_eq_some_iff.1 e1).1) hj]
          exact List.getElem?_eq_getElem _
        obtain ⟨_, l', _, rfl', _⟩ := hin o _ ho hx
        exact ⟨l', by rw [hx, rfl']⟩
      · exact ⟨l, by rw [setOs_out ho]; exact hl⟩
    · rw [hor] at ho
      obtain ⟨j, hj⟩ := List.getElem?_of_mem ho
      obtain ⟨l, e1, _⟩ := hol j o hj
      exact ⟨_, e1, fun _ => trivial⟩
    · by_cases ho : o ∈ or
      · obtain ⟨j, hj⟩ := List.getElem?_of_mem ho
        have hjl := (List.getElem?_eq_some_iff.1 hj).1
        have hx' : (setOs os or os')[o]? = some (os'[j]'(by rw [h4, hgl]; exact hjl)) := by
          rw [setOs_in hn (by rw [h4, hgl]) (fun p hp => by
            obtain ⟨i, hi⟩ := List.getElem?_of_mem hp
            obtain ⟨l, e1, _⟩ := hol i p hi
            exact (List.getElem?_eq_some_iff.1 e1).1) hj]
          exact List.getElem?_eq_getElem _
        obtain ⟨_, l', _, rfl', _⟩ := hin o _ ho hx'
        exact ⟨_, hx', fun e => by rw [rfl'] at e; cases e⟩
      · exact ⟨x, by rw [setOs_out ho]; exact hx, hd⟩
    · rcases r4.pf b x hb with h | h | ⟨j, z, z1, z2, z3⟩
      · exact .inl h
      · exact .inr (.inl h)
      · have hjl : j < or.length := by rw [← hgl]; exact (List.getElem?_eq_some_iff.1 z1).1
        have hjg := List.getElem?_eq_getElem (l := or) (i := j) hjl
        obtain ⟨l, e1, _⟩ := hol j _ hjg
        exact .inr (.inr ⟨_, _, e1, ⟨trivial, (hblk hjg).2.symm.trans z2.2⟩, (hblk hjg).1.symm.trans z3⟩)
end Go.Pv
namespace Go.Pv
open Go Go.EvM
set_option linter.unusedVariables false
set_option linter.unusedSectionVars false
variable [Dat] {cx : Cx} {tb : TypeId → Option TB} {R : Type}
def rdInt (k : IntKind) (v : V) : Option Int := match v with | .int k' n => bif decide (k' = k) then some n else none | _ => none
def rdBool (v : V) : Option Bool := match v with | .bool b => some b | _ => none
def rdStr (v : V) : Option (List UInt8) := match v with | .str l => some l | _ => none
def rdSl (c : Nat) (v : V) : Option (List (Dat.S c)) := match v with | .sl d l => if h : d = c then some (h ▸ l) else none | _ => none
def rdSt (c : Nat) (v : V) : Option (Dat.S c) := match v with | .st d x => if h : d = c then some (h ▸ x) else none | _ => none
def asPtr0 (v : V) : Bool := match v with | .ptr 0 0 => true | _ => false
def asLoc (a : Nat) (v : V) : Bool := match v with | .loc b => Nat.beq b a | _ => false
def asPtr (o : Nat) (v : V) : Bool := match v with | .ptr p q => Nat.beq p o && Nat.beq q 0 | _ => false
def rdArr (c : Nat) (x : PObj) : Option (List (Dat.S c)) := match x with | .arr d l => if h : d = c then some (h ▸ l) else none | _ => none
def rdFrz (c : Nat) (x : PObj) : Option (List (Dat.S c)) := match x with | .frz d l => if h : d = c then some (h ▸ l) else none | _ => none
def rdCells (x : PObj) : Option (List V) := match x with | .cells l => some l | _ => none
theorem rdInt_eq {k : IntKind} {v : V} {n : Int} (h : rdInt k v = some n) : v = .int k n := by
  unfold rdInt at h
  split at h
  · rename_i k' m
    cases hd : decide (k' = k) with
    | false => rw [hd] at h; cases h
    | true => rw [hd] at h; cases h; rw [of_decide_eq_true hd]
  · cases h
theorem rdBool_eq {v : V} {n : Bool} (h : rdBool v = some n) : v = .bool n := by
  unfold rdBool at h
  split at h <;> cases h
  rfl
theorem rdStr_eq {v : V} {n : List UInt8} (h : rdStr v = some n) : v = .str n := by
  unfold rdStr at h
  split at h <;> cases h
  rfl
theorem rdSl_eq {c : Nat} {v : V} {n : List (Dat.S c)} (h : rdSl c v = some n) : v = .sl c n := by
  unfold rdSl at h
  split at h
  · split at h
    · rename_i hd; subst hd; cases h; rfl
    · cases h
  · cases h
theorem rdSt_eq {c : Nat} {v : V} {n : Dat.S c} (h : rdSt c v = some n) : v = .st c n := by
  unfold rdSt at h
  split at h
  · split at h
    · rename_i hd; subst hd; cases h; rfl
    · cases h
  · cases h
theorem rdArr_eq {c : Nat} {v : PObj} {n : List (Dat.S c)} (h : rdArr c v = some n) : v = .arr c n := by
  unfold rdArr at h
  split at h
  · split at h
    · rename_i hd; subst hd; cases h; rfl
    · cases h
  · cases h
theorem rdFrz_eq {c : Nat} {v : PObj} {n : List (Dat.S c)} (h : rdFrz c v = some n) : v = .frz c n := by
  unfold rdFrz at h
  split at h
  · split at h
    · rename_i hd; subst hd; cases h; rfl
    · cases h
  · cases h
theorem rdCells_eq {v : PObj} {n : List V} (h : rdCells v = some n) : v = .cells n := by
  unfold rdCells at h
  split at h <;> cases h
  rfl
theorem asLoc_eq {a : Nat} {v : V} (h : asLoc a v = true) : v = .loc a := by
  unfold asLoc at h
  split at h
  · rw [Nat.eq_of_beq_eq_true h]
  · cases h
theorem asPtr_eq {a : Nat} {v : V} (h : asPtr a v = true) : v = .ptr a 0 := by
  unfold asPtr at h
  split at h
  · rw [Bool.and_eq_true] at h
    rw [Nat.eq_of_beq_eq_true h.1, Nat.eq_of_beq_eq_true h.2]
  · cases h
def rdPtr (o p : Nat) (v : V) : Option Unit := match v with | .ptr a b => bif Nat.beq a o && Nat.beq b p then some () else none | _ => none
def rdLoc (a : Nat) (v : V) : Option Unit := match v with | .loc b => bif Nat.beq b a then some () else none | _ => none
def rdNils (v : V) : Option Unit := match v with | .nils => some () | _ => none
def rdFn (f : Nat) (v : V) : Option Unit := match v with | .fn g [] [] => bif Nat.beq g f then some () else none | _ => none
def rdNilp (v : V) : Option Unit := match v with | .nilp => some () | _ => none
def rdUnd (v : V) : Option Unit := match v with | .und => some () | _ => none
def rdDead (v : PObj) : Option Unit := match v with | .dead => some () | _ => none
def rdAgg (v : V) : Option (List V) := match v with | .agg l => some l | _ => none
def rdTup (v : V) : Option (List V) := match v with | .tup l => some l | _ => none
theorem rdPtr_eq {o p : Nat} {v : V} {u : Unit} (h : rdPtr o p v = some u) : v = .ptr o p := by
  unfold rdPtr at h
  split at h
  · rename_i a b
    cases hq : Nat.beq a o && Nat.beq b p with
    | false => rw [hq] at h; cases h
    | true => rw [Bool.and_eq_true] at hq; rw [Nat.eq_of_beq_eq_true hq.1, Nat.eq_of_beq_eq_true hq.2]
  · cases h
theorem rdLoc_eq {o : Nat} {v : V} {u : Unit} (h : rdLoc o v = some u) : v = .loc o := by
  unfold rdLoc at h
  split at h
  · rename_i a
    cases hq : Nat.beq a o with
    | false => rw [hq] at h; cases h
    | true => rw [Nat.eq_of_beq_eq_true hq]
  · cases h
theorem rdFn_eq {o : Nat} {v : V} {u : Unit} (h : rdFn o v = some u) : v = .fn o [] [] := by
  unfold rdFn at h
  split at h
  · rename_i a
    cases hq : Nat.beq a o with
    | false => rw [hq] at h; cases h
    | true => rw [Nat.eq_of_beq_eq_true hq]
  · cases h
theorem rdNils_eq {v : V} {u : Unit} (h : rdNils v = some u) : v = .nils := by unfold rdNils at h; split at h <;> first | rfl | cases h
theorem rdNilp_eq {v : V} {u : Unit} (h : rdNilp v = some u) : v = .nilp := by unfold rdNilp at h; split at h <;> first | rfl | cases h
theorem rdUnd_eq {v : V} {u : Unit} (h : rdUnd v = some u) : v = .und := by unfold rdUnd at h; split at h <;> first | rfl | cases h
theorem rdDead_eq {v : PObj} {u : Unit} (h : rdDead v = some u) : v = .dead := by unfold rdDead at h; split at h <;> first | rfl | cases h
theorem rdAgg_eq {v : V} {l : List V} (h : rdAgg v = some l) : v = .agg l := by unfold rdAgg at h; split at h <;> cases h; rfl
theorem rdTup_eq {v : V} {l : List V} (h : rdTup v = some l) : v = .tup l := by unfold rdTup at h; split at h <;> cases h; rfl
noncomputable def conv (ac : List (Option (Bool × Nat))) (F : PSem R) : PSem R := fun vs os κ => match frzL vs os with | (vs, os) => match retype ac vs with | some vs => F vs os κ | none => none
theorem ptrs_retype1 {c : Option (Bool × Nat)} {p p' : V} (h : retype1 c p = some p') : ∀ l l' : List V, ptrsOf l = ptrsOf l' → ptrsOf (p' :: l) = ptrsOf (p :: l') := by
  intro l l' hl
  unfold retype1 at h
  repeat' split at h
  all_goals first
    | cases h
    | skip
  all_goals first
    | exact hl
    | (cases p <;> first | exact hl | (show _ :: _ = _ :: _; rw [hl]))
theorem ptrs_retype : ∀ {c : List (Option (Bool × Nat))} {l l' : List V}, retype c l = some l' → ptrsOf l' = ptrsOf l
  | [], l, l', h => by
    have h : some l = some l' := h
    cases h; rfl
  | c :: r, [], l', h => by
    have h : (none : Option (List V)) = some l' := h
    cases h
  | c :: r, p :: l, l', h => by
    have h : (match retype1 c p, retype r l with | some v, some l => some (v :: l) | _, _ => none) = some l' := h
    split at h
    · rename_i h1 h2
      cases h
      exact ptrs_retype1 h1 _ _ (ptrs_retype h2)
    · cases h
theorem CallOK.retype {f : FuncId} {c : List (Option (Bool × Nat))} {vs vs' : List V} {os os' : List PObj} {v : V} (e : Pv.retype c vs = some vs') (h : CallOK cx f vs' os v os') : CallOK cx f vs os v os' := by
  obtain ⟨N, h⟩ := h
  refine ⟨N, fun m hm Φ g H ws hs hr => ?_⟩
  have := h m hm Φ g H ws hs (retype_sim e hr)
  rw [ptrs_retype e] at this
  exact this
noncomputable def semOf (ac : List (Option (Bool × Nat))) (F : PSem R) : PSem R := fun vs os κ => match Pv.retype ac vs with | some vs => lift F vs os κ | none => none
theorem semOf_ok {f : FuncId} {ac : List (Option (Bool × Nat))} {F : PSem R} (h : SemC cx f F) : SemOK cx f (semOf ac F) := by
  intro vs os κ r hr
  unfold semOf at hr
  split at hr
  · rename_i vs' e
    obtain ⟨v, os', h1, h2⟩ := lift_ok h vs' os κ r hr
    exact ⟨v, os', h1, h2.retype e⟩
  · cases hr
noncomputable def noSem : PSem R := fun _ _ _ => none
theorem noSem_ok (f : FuncId) : SemOK cx f (noSem : PSem R) := fun _ _ _ _ h => by cases h
noncomputable def tabG : List (FuncId × PSem R) → FuncId → PSem R
  | [], _ => noSem
  | p :: l, f => bif Nat.beq f p.1 then p.2 else tabG l f
inductive TabOK (cx : Cx) : List (FuncId × PSem R) → Prop
  | nil : TabOK cx []
  | cons {f : FuncId} {S : PSem R} {l : List (FuncId × PSem R)} : SemOK cx f S → TabOK cx l → TabOK cx ((f, S) :: l)
theorem tabG_ok : ∀ {l : List (FuncId × PSem R)}, TabOK cx l → ∀ f, SemOK cx f (tabG l f)
  | [], _, f => noSem_ok f
  | (i, S) :: l, h, f => by
    cases h with
    | cons h1 h2 =>
      unfold tabG
      cases hf : Nat.beq f i with
      | true => rw [Nat.eq_of_beq_eq_true hf]; exact h1
      | false => exact tabG_ok h2 f
theorem fn_of {P : Program} {sts : List TypeId} {ext : FuncId → Option (List Value → Hp → OR)} {f : FuncId} {F : Func} (h : P.funcs[f]? = some F) : (mkCx P sts ext).fn f = some F := by
  show P.funcs.toList[f]? = some F
  rw [← h]; simp
noncomputable def bodyOf (f : Func) : Code := match f.body with | some c => c | none => .skip
noncomputable def loopsIn : Code → List Code := Code.rec (motive := fun _ => List Code) [] (fun _ _ _ => []) (fun _ _ a b => a ++ b) (fun _ _ _ a b => a ++ b) (fun _ _ a => a) (fun b _ => [b]) (fun _ _ _ _ _ _ => []) (fun _ => []) (fun _ a => a) (fun _ => []) (fun _ => []) [] (fun _ => [])
noncomputable def lpC (c : Code) (i : Nat) : Code := match nth (loopsIn c) i with | some b => b | none => .skip
noncomputable def drawB (cx : Cx) : Code → Bool := Code.rec (motive := fun _ => Bool) true (fun _ ops d => match d with | true => ops.toList.all fun o => (match isM cx o, isMP o with | true, true => true | false, false => true | _, _ => false) | false => true) (fun _ _ a b => a && b) (fun _ _ _ a b => a && b) (fun _ _ a => a) (fun _ a => a) (fun _ _ _ _ a b => a && b) (fun _ => true) (fun _ a => a) (fun _ => true) (fun _ => true) true (fun _ => true)
inductive LoopsOK (cx : Cx) (n k : Nat) : List Code → List (LoopH R) → Prop
  | nil (L : List (LoopH R)) : LoopsOK cx n k [] L
  | cons {b : Code} {X : LoopH R} {cs : List Code} {L : List (LoopH R)} : LoopSem cx n k b X → LoopsOK cx n k cs L → LoopsOK cx n k (b :: cs) (X :: L)
theorem nLoops_len (c : Code) : nLoops c = (loopsIn c).length := by
  induction c with
  | seq a b iha ihb => show nLoops a + nLoops b = (loopsIn a ++ loopsIn b).length; rw [List.length_append, iha, ihb]
  | cond c a b iha ihb => show nLoops a + nLoops b = (loopsIn a ++ loopsIn b).length; rw [List.length_append, iha, ihb]
  | block i a ih => exact ih
  | scope a ih => exact ih
  | _ => rfl
theorem LoopsOK.left {n k : Nat} : ∀ {a b : List Code} {L : List (LoopH R)}, LoopsOK cx n k (a ++ b) L → LoopsOK cx n k a L
  | [], _, L, _ => .nil L
  | _ :: _, _, _, .cons h t => .cons h t.left
theorem LoopsOK.right {n k : Nat} : ∀ {a b : List Code} {L : List (LoopH R)}, LoopsOK cx n k (a ++ b) L → LoopsOK cx n k b (L.drop a.length)
  | [], _, L, h => by simpa using h
  | _ :: _, _, _, .cons h t => by simpa using t.right
theorem fit_of {n k : Nat} (c : Code) : ∀ {L : List (LoopH R)}, drawB cx c = true → LoopsOK cx n k (loopsIn c) L → CodeFit cx n k c L := by
  induction c with
  | region id ops d =>
    intro L h _ hd
    subst hd
    intro o ho
    have h : (ops.toList.all fun o => (match isM cx o, isMP o with | true, true => true | false, false => true | _, _ => false)) = true := h
    have := List.all_eq_true.1 h o ho
    split at this
    · rename_i h1 h2; rw [h1, h2]
    · rename_i h1 h2; rw [h1, h2]
    · cases this
  | seq a b iha ihb =>
    intro L h hl
    have h : (drawB cx a && drawB cx b) = true := h
    rw [Bool.and_eq_true] at h
    have hl : LoopsOK cx n k (loopsIn a ++ loopsIn b) L := hl
    exact ⟨iha h.1 hl.left, ihb h.2 (by rw [nLoops_len]; exact hl.right)⟩
  | cond c a b iha ihb =>
    intro L h hl
    have h : (drawB cx a && drawB cx b) = true := h
    rw [Bool.and_eq_true] at h
    have hl : LoopsOK cx n k (loopsIn a ++ loopsIn b) L := hl
    exact ⟨iha h.1 hl.left, ihb h.2 (by rw [nLoops_len]; exact hl.right)⟩
  | block i a ih => exact fun h hl => ih h hl
  | loop b ih =>
    intro L h hl X L' e
    have hl : LoopsOK cx n k [b] L := hl
    subst e
    cases hl with
    | cons h1 _ => exact h1
  | scope a ih => exact fun h hl => ih h hl
  | _ => exact fun _ _ => trivial
theorem loop_of (C : PvOk cx tb) {G : FuncId → PSem R} (HG : ∀ f, SemOK cx f (G f)) {n k : Nat} {ls lo lr : List Slot} {L : List (LoopH R)} {body : Code} (hd : drawB cx body = true) (hl : LoopsOK cx n k (loopsIn body) L) (m : Nat)
    {run : List V → List PObj → (Nat → List V → List PObj → Option R) → (List V → List PObj → Option R) → Option R} (h : ∀ vs os kx kr r, run vs os kx kr = some r → loopP tb G k n ls lo lr L body m vs os kx kr = some r) : LoopSem cx n k body ⟨ls, lo, lr, run⟩ :=
  fun vs os kx kr r hr => loop_ok C HG (fit_of body hd hl) m vs os kx kr r (h vs os kx kr r hr)
theorem fun_of (C : PvOk cx tb) {G : FuncId → PSem R} (HG : ∀ f, SemOK cx f (G f)) {k : Nat} {L : List (LoopH R)} {rc : List (Option (Bool × Nat))} {f : FuncId} {F : Func} (hfn : cx.fn f = some F) (hext : cx.ext f = none) (hb : F.body = some (bodyOf F)) (hd : drawB cx (bodyOf F) = true) (hl : LoopsOK cx F.ntmps k (loopsIn (bodyOf F)) L)
    {S : PSem R} (h : ∀ vs os κ r, S vs os κ = some r → pFun tb G k L rc F vs os κ = some r) : SemC cx f S :=
  fun vs os κ r hr => fun_sim C HG hfn hext hb (fit_of _ hd hl) (h vs os κ r hr)
noncomputable def zB : List Value → List V → Bool
  | [], [] => true
  | v :: l, p :: m => (match v, p with
    | .int k n, .int k' n' => decide (k = k') && eqI n n'
    | .bool b, .bool b' => (match b, b' with | true, true => true | false, false => true | _, _ => false)
    | .string s, .str l => eqL s.data.toList l
    | .pointer none, .nilp => true
    | .slice none 0 0, .nils => true
    | .nilFunc, .nilf => true
    | .map none, .und => true
    | .nilIface, .und => true
    | _, _ => false) && zB l m
  | _, _ => false
theorem eqI_eq {a b : Int} (h : eqI a b = true) : a = b := by
  cases a <;> cases b <;> simp [eqI] at h <;> rw [h]
theorem eqL_eq : ∀ {a b : List UInt8}, eqL a b = true → a = b
  | [], [], _ => rfl
  | [], _ :: _, h => by cases h
  | _ :: _, [], h => by cases h
  | x :: a, y :: b, h => by
    have h : (bif Nat.beq x.toNat y.toNat then eqL a b else false) = true := h
    cases hx : Nat.beq x.toNat y.toNat with
    | false => rw [hx] at h; cases h
    | true =>
      rw [hx] at h
      rw [UInt8.toNat_inj.1 (Nat.eq_of_beq_eq_true hx), eqL_eq h]
theorem zB_ok : ∀ {l : List Value} {m : List V}, zB l m = true → m.length = l.length ∧ (∀ Φ g, Reps Φ g m l) ∧ ∀ v ∈ l, f1 v = true
  | [], [], _ => ⟨rfl, fun _ _ => .nil, fun v h => by cases h⟩
  | [], _ :: _, h => by cases h
  | _ :: _, [], h => by cases h
  | v :: l, p :: m, h => by
    unfold zB at h
    rw [Bool.and_eq_true] at h
    obtain ⟨k0, k1, k2⟩ := zB_ok h.2
    obtain ⟨h, _⟩ := h
    have key : f1 v = true ∧ ∀ Φ g, Rep Φ g p v := by
      split at h
      · rw [Bool.and_eq_true] at h
        rw [of_decide_eq_true h.1, eqI_eq h.2]
        exact ⟨rfl, fun _ _ => .int _ _⟩
      · rename_i b b'
        cases b <;> cases b' <;> first | cases h; done | exact ⟨rfl, fun _ _ => .bool _⟩
      · rename_i s l
        obtain ⟨⟨s⟩⟩ := s
        have h := eqL_eq h
        subst h
        exact ⟨rfl, fun _ _ => .str _⟩
      · exact ⟨rfl, fun _ _ => .nilp⟩
      · exact ⟨rfl, fun _ _ => .nils⟩
      · exact ⟨rfl, fun _ _ => .nilf⟩
      · exact ⟨rfl, fun _ _ => .und rfl⟩
      · exact ⟨rfl, fun _ _ => .und rfl⟩
      · cases h
    exact ⟨by simp [k0], fun Φ g => .cons (key.2 Φ g) (k1 Φ g), fun u hu => by
      rcases List.mem_cons.1 hu with rfl | hu
      · exact key.1
      · exact k2 u hu⟩
noncomputable def fsB (cx : Cx) : List Field → List (Nat × Nat × Bool) → Bool
  | [], [] => true
  | fd :: l, p :: m => (match cx.ti fd.type with | some fi => Nat.beq fd.offset p.1 && (Nat.beq fi.size p.2.1 && (match isAggB fi.desc, p.2.2 with | true, true => true | false, false => true | _, _ => false)) | none => false) && fsB cx l m
  | _, _ => false
theorem fsB_ok : ∀ {l : List Field} {m : List (Nat × Nat × Bool)}, fsB cx l m = true → (∀ fd ∈ l, ∃ fi, cx.ti fd.type = some fi) ∧ ∀ (f off sz : Nat) (ag : Bool), m[f]? = some (off, sz, ag) → ∃ (fd : Field) (fi : TI), l[f]? = some fd ∧ fd.offset = off ∧ cx.ti fd.type = some fi ∧ fi.size = sz ∧ isAggB fi.desc = ag
  | [], [], _ => ⟨fun _ h => (by cases h), fun f _ _ _ h => (by simp at h)⟩
  | [], _ :: _, h => by cases h
  | _ :: _, [], h => by cases h
  | fd :: l, (o, z, a) :: m, h => by
    unfold fsB at h
    rw [Bool.and_eq_true] at h
    obtain ⟨k1, k2⟩ := fsB_ok h.2
    obtain ⟨h, _⟩ := h
    split at h
    · rename_i fi hfi
      simp only [Bool.and_eq_true] at h
      obtain ⟨h1, h2, h3⟩ := h
      have h3 : isAggB fi.desc = a := by
        cases hq : isAggB fi.desc <;> cases a <;> rw [hq] at h3 <;> first | rfl | cases h3
      refine ⟨fun x hx => ?_, fun f off sz ag hf => ?_⟩
      · rcases List.mem_cons.1 hx with rfl | hx
        · exact ⟨fi, hfi⟩
        · exact k1 x hx
      · cases f with
        | zero =>
          simp at hf
          obtain ⟨rfl, rfl, rfl⟩ := hf
          exact ⟨fd, fi, rfl, Nat.eq_of_beq_eq_true h1, hfi, Nat.eq_of_beq_eq_true h2, h3⟩
        | succ f => simpa using k2 f off sz ag (by simpa using hf)
    · cases h
noncomputable def krB (cx : Cx) (d : TypeDesc) : TK → Bool
  | .int k => (match d with | .int k' => decide (k' = k) | _ => false)
  | .str => (match d with | .string => true | _ => false)
  | .bool => (match d with | .bool => true | _ => false)
  | .sl e => (match d with | .slice e' => Nat.beq e' e | _ => false)
  | .strc fs => (match d with | .struct a => fsB cx a.toList fs | _ => false)
  | .oth => true
theorem krB_ok {d : TypeDesc} {k : TK} (h : krB cx d k = true) : KR cx d k := by
  cases k with
  | int k => simp only [krB] at h; split at h <;> first | cases h; done | (rename_i k'; show _ = _; rw [of_decide_eq_true h])
  | str => simp only [krB] at h; split at h <;> first | cases h; done | rfl
  | bool => simp only [krB] at h; split at h <;> first | cases h; done | rfl
  | sl e => simp only [krB] at h; split at h <;> first | cases h; done | (rename_i e'; show _ = _; rw [Nat.eq_of_beq_eq_true h])
  | strc fs =>
    simp only [krB] at h
    split at h
    · rename_i a
      obtain ⟨h1, h2⟩ := fsB_ok h
      exact ⟨a, rfl, h1, h2⟩
    · cases h
  | oth => trivial
noncomputable def tiB (cx : Cx) (t : TypeId) (b : TB) : Bool :=
  match cx.ti t with
  | some i => Nat.beq i.size b.size && (Nat.beq i.bytes b.bytes && ((match isAggB i.desc, b.agg with | true, true => true | false, false => true | _, _ => false) && (Nat.ble b.size 40 && (Nat.ble 1 b.size && (zB i.zero b.zero && (Nat.beq b.zero.length b.size && krB cx i.desc b.kind))))))
  | none => false
theorem tiB_ok {t : TypeId} {b : TB} (h : tiB cx t b = true) : ∃ i, cx.ti t = some i ∧ TIR cx i b := by
  unfold tiB at h
  split at h
  · rename_i i hi
    simp only [Bool.and_eq_true] at h
    obtain ⟨h1, h2, h3, h4, h5, h6, h7, h8⟩ := h
    obtain ⟨z1, z2, z3⟩ := zB_ok h6
    refine ⟨i, hi, Nat.eq_of_beq_eq_true h1, Nat.eq_of_beq_eq_true h2, ?_, Nat.le_of_ble_eq_true h4, Nat.le_of_ble_eq_true h5, z2, Nat.eq_of_beq_eq_true h7, z3, krB_ok h8⟩
    cases hq : isAggB i.desc <;> cases hb : b.agg <;> rw [hq, hb] at h3 <;> first | rfl | cases h3
  · cases h
noncomputable def lookB (t : Nat) : List (TypeId × TB) → Option TB
  | [] => none
  | p :: l => bif Nat.beq t p.1 then some p.2 else lookB t l
theorem lookB_ok {cx : Cx} : ∀ {l : List (TypeId × TB)}, l.all (fun p => tiB cx p.1 p.2) = true → ∀ t b, lookB t l = some b → ∃ i, cx.ti t = some i ∧ TIR cx i b
  | [], _, t, b, h => by cases h
  | p :: l, ha, t, b, h => by
    rw [List.all_cons, Bool.and_eq_true] at ha
    unfold lookB at h
    cases hp : Nat.beq t p.1 with
    | true =>
      rw [hp] at h
      cases h
      rw [Nat.eq_of_beq_eq_true hp]
      exact tiB_ok ha.1
    | false =>
      rw [hp] at h
      exact lookB_ok ha.2 t b h
theorem call_top {f : FuncId} {vs : List V} {ws : List Value} {v : V} {os' : List PObj} (h : CallOK cx f vs [] v os') (hr : ∀ Φ g, Reps Φ g vs ws) : ∃ m, ∃ w H', evFun cx (m + 1) f ws ⟨0, .nil⟩ = .ok w H' ∧ ∃ Φ g, Rep Φ g v w := by
  obtain ⟨N, h⟩ := h
  obtain ⟨w, H', Φ', g', h1, h2, _⟩ := h (N + 1) (Nat.le_succ _) (fun _ => none) ⟨0, fun _ => 0, fun _ => 0, fun _ => 0, fun _ => 0, fun _ => false⟩ ⟨0, .nil⟩ ws ⟨rfl, fun o x h => by simp at h, fun o p x y h => by simp at h, fun b x h => by cases h⟩ (hr _ _)
  exact ⟨N, w, H', h1, Φ', g', h2⟩
end Go.Pv
namespace Go.Pv
open Go Go.EvM
set_option linter.unusedVariables false
set_option linter.unusedSectionVars false
noncomputable section
variable [Dat] {cx : Cx} {tb : TypeId → Option TB} {R : Type}
structure Ar (X : Type) (D : Type → Type) where
  w : (W : Type) → (X → W) → D W
  r : (W : Type) → D W → X → Option W
  ok : ∀ W (E : X → W) x q, r W (w W E) x = some q → E x = q
variable {X Y A T : Type} {D D1 D2 : Type → Type}
def mkA (rd : X → Option A) (wr : A → X) (h : ∀ x a, rd x = some a → x = wr a) : Ar X (fun W => A → W) :=
  ⟨fun _ E a => E (wr a), fun _ f x => (rd x).map f, fun W E x q e => by
    obtain ⟨a, h1, h2⟩ := Option.map_eq_some_iff.1 e
    rw [h x a h1]; exact h2⟩
def mkU (rd : X → Option Unit) (x0 : X) (h : ∀ x a, rd x = some a → x = x0) : Ar X (fun W => W) :=
  ⟨fun _ E => E x0, fun _ f x => (rd x).map fun _ => f, fun W E x q e => by
    obtain ⟨a, h1, h2⟩ := Option.map_eq_some_iff.1 e
    rw [h x a h1]; exact h2⟩
def mkW (rd : X → Option Y) (wr : Y → X) (h : ∀ x a, rd x = some a → x = wr a) (b : Ar Y D) : Ar X D :=
  ⟨fun W E => b.w W fun y => E (wr y), fun W f x => (rd x).bind (b.r W f), fun W E x q e => by
    obtain ⟨a, h1, h2⟩ := Option.bind_eq_some_iff.1 e
    rw [h x a h1]; exact b.ok W _ a q h2⟩
def aI (k : IntKind) : Ar V (fun W => Int → W) := mkA (rdInt k) (.int k) fun _ _ h => rdInt_eq h
def aB : Ar V (fun W => Bool → W) := mkA rdBool .bool fun _ _ h => rdBool_eq h
def aS : Ar V (fun W => List UInt8 → W) := mkA rdStr .str fun _ _ h => rdStr_eq h
def aL (c : Nat) : Ar V (fun W => List (Dat.S c) → W) := mkA (rdSl c) (.sl c) fun _ _ h => rdSl_eq h
def aT (c : Nat) : Ar V (fun W => Dat.S c → W) := mkA (rdSt c) (.st c) fun _ _ h => rdSt_eq h
def aP (o p : Nat) : Ar V (fun W => W) := mkU (rdPtr o p) (.ptr o p) fun _ _ h => rdPtr_eq h
def aO (a : Nat) : Ar V (fun W => W) := mkU (rdLoc a) (.loc a) fun _ _ h => rdLoc_eq h
def aF (f : Nat) : Ar V (fun W => W) := mkU (rdFn f) (.fn f [] []) fun _ _ h => rdFn_eq h
def aNs : Ar V (fun W => W) := mkU rdNils .nils fun _ _ h => rdNils_eq h
def aNp : Ar V (fun W => W) := mkU rdNilp .nilp fun _ _ h => rdNilp_eq h
def aD : Ar V (fun W => W) := mkU rdUnd .und fun _ _ h => rdUnd_eq h
def aG (b : Ar (List V) D) : Ar V D := mkW rdAgg .agg (fun _ _ h => rdAgg_eq h) b
def aU (b : Ar (List V) D) : Ar V D := mkW rdTup .tup (fun _ _ h => rdTup_eq h) b
def aK (b : Ar (List V) D) : Ar PObj D := mkW rdCells .cells (fun _ _ h => rdCells_eq h) b
def aA (c : Nat) : Ar PObj (fun W => List (Dat.S c) → W) := mkA (rdArr c) (.arr c) fun _ _ h => rdArr_eq h
def aZ (c : Nat) : Ar PObj (fun W => List (Dat.S c) → W) := mkA (rdFrz c) (.frz c) fun _ _ h => rdFrz_eq h
def aE : Ar PObj (fun W => W) := mkU rdDead .dead fun _ _ h => rdDead_eq h
def aN : Ar (List X) (fun W => W) := ⟨fun _ E => E [], fun _ f l => match l with | [] => some f | _ :: _ => none, fun W E x q e => by
  cases x with
  | nil => cases e; rfl
  | cons => cases e⟩
def aC (a : Ar X D1) (b : Ar (List X) D2) : Ar (List X) (fun W => D1 (D2 W)) :=
  ⟨fun W E => a.w (D2 W) fun x => b.w W fun l => E (x :: l), fun W f l => match l with | x :: l => (a.r (D2 W) f x).bind fun g => b.r W g l | [] => none, fun W E x q e => by
    cases x with
    | nil => cases e
    | cons x l =>
      obtain ⟨g, h1, h2⟩ := Option.bind_eq_some_iff.1 e
      have := a.ok _ _ _ _ h1
      subst this
      exact b.ok W (fun l => E (x :: l)) l q h2⟩
def aX (a : Ar (List V) D1) (b : Ar (List PObj) D2) : Ar (List V × List PObj) (fun W => D1 (D2 W)) :=
  ⟨fun W E => a.w (D2 W) fun x => b.w W fun l => E (x, l), fun W f l => (a.r (D2 W) f l.1).bind fun g => b.r W g l.2, fun W E x q e => by
    obtain ⟨g, h1, h2⟩ := Option.bind_eq_some_iff.1 e
    have := a.ok _ _ _ _ h1
    subst this
    exact b.ok W (fun l => E (x.1, l)) x.2 q h2⟩
def aQ (a : Ar X (fun W => W)) : Ar X (fun W => Unit → W) := ⟨fun W E _ => a.w W E, fun W f x => a.r W (f ()) x, fun W E x q e => a.ok W E x q e⟩
def aR (a : Ar X D) (i : (W : Type) → D W → T → W) (j : (W : Type) → (T → W) → D W) (h : ∀ W f, j W (i W f) = f) : Ar X (fun W => T → W) :=
  ⟨fun W E => i W (a.w W E), fun W f x => a.r W (j W f) x, fun W E x q e => by rw [h] at e; exact a.ok W E x q e⟩
abbrev St2 [Dat] := List V × List PObj
abbrev Ko [Dat] (R : Type) := V → List PObj → Option R
def pr (f : List V → List PObj → A) (x : St2) : A := f x.1 x.2
def rawA (A : Ar St2 D) (F : D (Ko R → Option R)) : PSem R := fun vs os κ => match A.r _ F (vs, os) with | some g => g κ | none => none
def semA (ac : List (Option (Bool × Nat))) (A : Ar St2 D) (F : D (Ko R → Option R)) : PSem R := semOf ac (rawA A F)
theorem rawA_ok (C : PvOk cx tb) {G : FuncId → PSem R} (HG : ∀ f, SemOK cx f (G f)) {k : Nat} {L : List (LoopH R)} {rc : List (Option (Bool × Nat))} {f : FuncId} {F : Func} {A : Ar St2 D} (hfn : cx.fn f = some F) (hext : cx.ext f = none) (hb : F.body = some (bodyOf F)) (hd : drawB cx (bodyOf F) = true) {lb : List Code} (hq : loopsIn (bodyOf F) = lb)
    (hl : LoopsOK cx F.ntmps k lb L) {F' : D (Ko R → Option R)} (h : A.w _ (fun x κ => pFun tb G k L rc F x.1 x.2 κ) = F') : SemC cx f (rawA A F') :=
  fun_of C HG hfn hext hb hd (hq ▸ hl) fun vs os κ r hr => by
    subst h
    unfold rawA at hr
    split at hr
    · rename_i g hg
      have := A.ok _ _ _ _ hg
      exact (congrFun this κ).trans hr
    · cases hr
theorem raw0 (C : PvOk cx tb) {G : FuncId → PSem R} (HG : ∀ f, SemOK cx f (G f)) {k : Nat} {rc : List (Option (Bool × Nat))} {f : FuncId} {F : Func} {A : Ar St2 D} (hfn : cx.fn f = some F) (hext : cx.ext f = none) (hb : F.body = some (bodyOf F)) (hd : drawB cx (bodyOf F) = true) (hq : loopsIn (bodyOf F) = [])
    {F' : D (Ko R → Option R)} (h : A.w _ (fun x κ => pFun tb G k [] rc F x.1 x.2 κ) = F') : SemC cx f (rawA A F') := rawA_ok C HG hfn hext hb hd hq (.nil _) h
theorem rawA_z {f : FuncId} {A : Ar St2 D} {F' : D (Ko R → Option R)} (h : A.w _ (fun _ _ => none) = F') : SemC cx f (rawA A F') := fun vs os κ r hr => by
  subst h
  unfold rawA at hr
  split at hr
  · rename_i g hg
    have := A.ok _ _ _ _ hg
    rw [← this] at hr
    cases hr
  · cases hr
def itN {T : Type} (z : T) (S : T → T) : Nat → T
  | 0 => z
  | j + 1 => S (itN z S j)
class Zf (T : Type) where
  z : T
instance : Zf (Option R) := ⟨none⟩
instance {A T : Type} [Zf T] : Zf (A → T) := ⟨fun _ => Zf.z⟩
structure LpS where
  ls : List Slot
  lo : List Slot
  lr : List Slot
abbrev Kx [Dat] (R : Type) := Nat → List V → List PObj → Option R
abbrev Kr [Dat] (R : Type) := List V → List PObj → Option R
def roundA (tb : TypeId → Option TB) (G : FuncId → PSem R) (k : Nat) (F : Func) (body : Code) (L : List (LoopH R)) (s : LpS) (A : Ar St2 D) (ρ : Kr R) (kx : Kx R) (kr : Kr R) : D (Option R) :=
  A.w _ fun x => pCode tb G k F.ntmps body L (fun t => match head k s.ls t with | (vs, os) => ρ vs os) (fun i t => match head k s.lo t with | (vs, os) => kx i vs os) (fun t => match head k s.lr t with | (vs, os) => kr vs os) ⟨mkEnv s.ls x.1, x.2⟩
def loopA (s : LpS) (A : Ar St2 D) (F : Kx R → Kr R → D (Option R)) : LoopH R := ⟨s.ls, s.lo, s.lr, fun vs os kx kr => match A.r _ (F kx kr) (vs, os) with | some r => r | none => none⟩
theorem loopA_ok (C : PvOk cx tb) {G : FuncId → PSem R} (HG : ∀ f, SemOK cx f (G f)) {k : Nat} {F : Func} {s : LpS} {L : List (LoopH R)} {body : Code} {A : Ar St2 D} (hd : drawB cx body = true) {lb : List Code} (hq : loopsIn body = lb) (hl : LoopsOK cx F.ntmps k lb L) (m : Nat)
    {N : Kx R → Kr R → D (Option R)} {z : D (Option R)} {S : Kx R → Kr R → D (Option R) → D (Option R)} (hN : ∀ kx kr, N kx kr = itN z (S kx kr) m) (hz : A.w _ (fun _ => none) = z)
    (hs : ∀ ρ kx kr, roundA tb G k F body L s A ρ kx kr = S kx kr (A.w _ (pr ρ))) : LoopSem cx F.ntmps k body (loopA s A N) := by
  refine loop_of C HG (L := L) hd (hq ▸ hl) m fun vs os kx kr r h => ?_
  have key : ∀ j, A.w _ (fun x : St2 => loopP tb G k F.ntmps s.ls s.lo s.lr L body j x.1 x.2 kx kr) = itN z (S kx kr) j := by
    intro j
    induction j with
    | zero => exact hz
    | succ j ih =>
      refine Eq.trans ?_ ((hs (fun vs os => loopP tb G k F.ntmps s.ls s.lo s.lr L body j vs os kx kr) kx kr).trans (congrArg (S kx kr) ih))
      rfl
  try dsimp only at h
  split at h
  · rename_i q hq
    rw [hN, ← key m] at hq
    have := A.ok _ _ _ _ hq
    exact this.trans h
  · cases h
end
end Go.Pv
namespace Go.Pv
open Go Go.EvM
set_option linter.unusedVariables false
set_option linter.unusedSectionVars false
variable [Dat] {cx : Cx} {tb : TypeId → Option TB} {R : Type}
theorem HS.fresh {Φ Φ1 : Fz} {g g0 g1 : Gh} {os os1 : List PObj} {H H' : Hp} (h : HS Φ g os H) (h1 : HS Φ1 g1 os1 H') (k : Nk 0 Φ g0 [] H Φ1 g1 os1 H') {a c : Nat} {l : List (Dat.S c)} (ha : os1[a]? = some (.arr c l)) {w : Value} (hw : Rep Φ1 g1 (.loc a) w) :
    ∃ g', HS Φ1 g' (os ++ [.arr c l]) H' ∧ Nx Φ g os H Φ1 g' (os ++ [.arr c l]) H' [] ∧ Rep Φ1 g' (.loc os.length) w := by
  have hH : ∀ b, b < H.n → H'.b.get b = H.b.get b := fun b hb => k.fr b hb fun o x ho => by simp at ho
  have hle := g.push_le (g1.blk a) (g1.cap a) (g1.len a) (g1.es a) (g1.vir a)
  have hbn : (g.push (g1.blk a) (g1.cap a) (g1.len a) (g1.es a) (g1.vir a)).blk g.n = g1.blk a := if_pos rfl
  have hcn : (g.push (g1.blk a) (g1.cap a) (g1.len a) (g1.es a) (g1.vir a)).cap g.n = g1.cap a := if_pos rfl
  have hln : (g.push (g1.blk a) (g1.cap a) (g1.len a) (g1.es a) (g1.vir a)).len g.n = g1.len a := if_pos rfl
  have hen : (g.push (g1.blk a) (g1.cap a) (g1.len a) (g1.es a) (g1.vir a)).es g.n = g1.es a := if_pos rfl
  have hvn : (g.push (g1.blk a) (g1.cap a) (g1.len a) (g1.es a) (g1.vir a)).vir g.n = g1.vir a := if_pos rfl
  have hn1 : (g.push (g1.blk a) (g1.cap a) (g1.len a) (g1.es a) (g1.vir a)).n = g.n + 1 := rfl
  generalize g.push (g1.blk a) (g1.cap a) (g1.len a) (g1.es a) (g1.vir a) = g' at hle hbn hcn hln hen hvn hn1
  have hcase : ∀ o y, (os ++ [PObj.arr c l])[o]? = some y → (os[o]? = some y ∧ o < g.n) ∨ (o = g.n ∧ y = .arr c l) := fun o y hy => by rw [h.n]; exact app_cases hy
  have hlv : ∀ {o y}, o < g.n → Lv g' o y → Lv g o y := fun ho hl => ⟨hl.1, (hle.vir _ ho).symm.trans hl.2⟩
  have hph : ∀ b, b < H.n → Φ b = none → Φ1 b = none := fun b hb hp => by
    cases hx : Φ1 b with
    | none => rfl
    | some x =>
      rcases k.pf b x hx with e | e | ⟨p, y, e, _⟩
      · rw [hp] at e; cases e
      · omega
      · simp at e
  have hnew : g1.vir a = false → H.n ≤ g1.blk a := fun hv => by
    rcases k.lv a _ ha ⟨trivial, hv⟩ with ⟨p, y, e, _⟩ | e
    · simp at e
    · exact e
  refine ⟨g', ⟨by rw [hn1, h.n]; simp, fun o y hy => ?_, fun o p y z hy hz ly lz hb => ?_, h1.phi⟩, ⟨k.phi, hle, k.n, fun b hb _ => hH b hb, fun o y hy ly => ?_, fun o l ho => ?_, (fun o ho => by cases ho), fun o y ho hd _ => ⟨y, by rw [List.getElem?_append_left (List.getElem?_eq_some_iff.1 ho).1]; exact ho, hd⟩, fun b x hb => ?_⟩, ?_⟩
  · rcases hcase o y hy with ⟨e1, e2⟩ | ⟨rfl, rfl⟩
    · exact (h.ob o y e1).keep k.phi hle k.n e2 (fun hl => ⟨hH _ ((h.ob o y e1).blk_lt hl).1, hph _ ((h.ob o y e1).blk_lt hl).1 ((h.ob o y e1).blk_lt hl).2⟩)
    · obtain ⟨a1, a2, hq⟩ := h1.ob a _ ha
      unfold ObjR
      rw [hbn, hcn, hln, hen, hvn]
      refine ⟨a1, a2, ?_⟩
      rcases hq with hq | ⟨q0, q1, q2, q3, cc, n, z, t, q4, q5, q6, q7⟩
      · exact .inl hq
      · exact .inr ⟨q0, q1, q2, q3, cc, n, z, t, q4, q5, q6, q7.data _⟩
  · rcases hcase o y hy with ⟨e1, e2⟩ | ⟨rfl, rfl⟩ <;> rcases hcase p z hz with ⟨k1, k2⟩ | ⟨rfl, rfl⟩
    · rw [hle.blk o e2, hle.blk p k2] at hb; exact h.inj o p y z e1 k1 (hlv e2 ly) (hlv k2 lz) hb
    · rw [hle.blk o e2, hbn] at hb; have := ((h.ob o y e1).blk_lt (hlv e2 ly)).1; have := hnew (hvn.symm.trans lz.2); omega
    · rw [hle.blk p k2, hbn] at hb; have := ((h.ob p z k1).blk_lt (hlv k2 lz)).1; have := hnew (hvn.symm.trans ly.2); omega
    · rfl
  · rcases hcase o y hy with ⟨e1, e2⟩ | ⟨rfl, rfl⟩
    · exact .inl ⟨o, y, e1, hlv e2 ly, (hle.blk o e2).symm⟩
    · rw [hbn]; exact .inr (hnew (hvn.symm.trans ly.2))
  · exact ⟨l, by rw [List.getElem?_append_left (List.getElem?_eq_some_iff.1 ho).1]; exact ho⟩
  · rcases k.pf b x hb with e | e | ⟨p, y, e, _⟩
    · exact .inl e
    · exact .inr (.inl e)
    · simp at e
  · rw [← h.n]
    cases hw with
    | loc0 q1 q2 => exact .loc0 (by omega) (hvn.trans q2)
    | loc q1 q2 =>
      rw [← hbn, ← hcn, ← hln]
      exact .loc (by omega) (hvn.trans q2)
noncomputable def cloneS (c by_ : Nat) : PSem R := fun vs os κ => match vs with
  | [v] => (match rdSl c v with | some l => bif okAp by_ (Nat.add 0 l.length) then κ (.loc os.length) (os ++ [.arr c l]) else none | none => none)
  | _ => none
noncomputable def finK (t : Nat) : K (V × List PObj) := fun s => some (s.env t, s.os)
abbrev g00 : Gh := ⟨0, fun _ => 0, fun _ => 0, fun _ => 0, fun _ => 0, fun _ => false⟩
theorem HS.none {Φ : Fz} {g : Gh} {os : List PObj} {H : Hp} (h : HS Φ g os H) : HS Φ g00 [] H := ⟨rfl, fun o x h => by simp at h, fun o p x y h => by simp at h, h.phi⟩
noncomputable def cT (s : Value) : Tr Value := (((Tr.ofL [s]).put 2 (.slice none 0 0)).put 3 s).put 4 (.bool false)
theorem clone_ok (C : PvOk cx tb) {f c by_ : Nat} {F : Func} {r0 X S : Code} (hfn : cx.fn f = some F) (hext : cx.ext f = none) (hb : F.body = some (.seq r0 (.seq X S))) (hres : F.results.toList = [.tmp 2])
    (hen : ∀ s H, enterS F [s] H = ⟨F.ntmps, Tr.ofL [s], [], H⟩)
    (hf : CodeFit cx F.ntmps 0 (.seq r0 (.seq X S)) ([] : List (LoopH (V × List PObj)))) (hfS : CodeFit cx F.ntmps 0 S ([] : List (LoopH (V × List PObj))))
    (hA : ∀ x l, pCode tb (fun _ => noSem) 0 F.ntmps (.seq r0 (.seq X S)) [] (finK 2) (fun _ _ => Option.none) (finK 2) ⟨argsE [.sl c (x :: l)], []⟩ = bif okAp by_ (Nat.add 0 (x :: l).length) then some (.loc 1, [.dead, .arr c (x :: l)]) else Option.none)
    (hB : pCode tb (fun _ => noSem) 0 F.ntmps (.seq r0 (.seq X S)) [] (finK 2) (fun _ _ => Option.none) (finK 2) ⟨argsE [.nils], []⟩ = some (.nils, []))
    (hC : pCode tb (fun _ => noSem) 0 F.ntmps S [] (finK 2) (fun _ _ => Option.none) (finK 2) ⟨argsE [.sl c []], []⟩ = some (.loc 1, [.dead, .arr c []]))
    (hD : ∀ b off cap m H, evCode cx (evFun cx m) (dCall cx m) m (.seq r0 X) ⟨F.ntmps, Tr.ofL [.slice (some ⟨b, off, Option.none⟩) 0 cap], [], H⟩ = .ok .norm ⟨F.ntmps, cT (.slice (some ⟨b, off, Option.none⟩) 0 cap), [], H⟩) :
    SemOK cx f (cloneS (R := R) c by_) := by
  have HG : ∀ f : FuncId, SemOK cx f (noSem (R := V × List PObj)) := fun f => noSem_ok f
  have out : ∀ {m : Nat} {s : Value} {H H' : Hp} {T' : Tr Value} {ex : Ex}, (∀ i, ex ≠ .exit i) → evCode cx (evFun cx m) (dCall cx m) m (.seq r0 (.seq X S)) ⟨F.ntmps, Tr.ofL [s], [], H⟩ = .ok ex ⟨F.ntmps, T', [], H'⟩ → evFun cx (m + 1) f [s] H = .ok (slotV T' 2) H' := by
    intro m s H H' T' ex hnx k1
    show (match cx.ext f with
      | some e => e [s] H
      | none => match cx.fn f with
        | some fn => evBody cx (evFun cx m) (evDef cx (evFun cx m) m) m fn [s] H
        | none => .no) = _
    rw [hext]; dsimp only
    rw [hfn]; dsimp only
    unfold evBody
    rw [hb]; dsimp only
    rw [hen]
    have k1 : evCode cx (evFun cx m) (evDef cx (evFun cx m) m) m (.seq r0 (.seq X S)) ⟨F.ntmps, Tr.ofL [s], [], H⟩ = .ok ex ⟨F.ntmps, T', [], H'⟩ := k1
    rw [k1]
    have hfin : evOut cx F.results.toList T' H' = .ok (slotV T' 2) H' := by rw [hres]; exact evOut_ok (ws := [slotV T' 2]) rfl
    cases ex with
    | exit i => exact absurd rfl (hnx i)
    | norm => exact hfin
    | ret => exact hfin
  have onw : ∀ {ex : Ex} {s' : PSt} {q : V × List PObj}, onward (finK 2) (fun _ _ => Option.none) (finK 2) ex s' = some q → (∀ i, ex ≠ .exit i) ∧ s'.env 2 = q.1 ∧ s'.os = q.2 := by
    intro ex s' q h
    cases ex with
    | exit i => cases h
    | norm => cases h; exact ⟨fun i e => (by cases e), rfl, rfl⟩
    | ret => cases h; exact ⟨fun i e => (by cases e), rfl, rfl⟩
  intro vs os κ r h
  unfold cloneS at h
  split at h
  rotate_left
  · cases h
  rename_i v
  split at h
  rotate_left
  · cases h
  rename_i l hv
  obtain rfl := rdSl_eq hv
  cases hk : okAp by_ (Nat.add 0 l.length) with
  | false => rw [hk] at h; cases h
  | true =>
  rw [hk] at h
  refine ⟨_, _, h, ?_⟩
  obtain ⟨exB, sB, kB, NB, cB⟩ := code_sim C HG _ hf hB
  obtain ⟨nB, eB1, eB2⟩ := onw kB
  cases l with
  | cons x l =>
    have hA := hA x l
    rw [hk] at hA
    obtain ⟨ex, s', h1, N, h2⟩ := code_sim C HG _ hf hA
    obtain ⟨hnx, e1, e2⟩ := onw h1
    refine ⟨N + 1, fun m hm Φ g H ws hs hr => ?_⟩
    obtain ⟨m, rfl⟩ : ∃ j, m = j + 1 := ⟨m - 1, by omega⟩
    cases hr with
    | cons hr0 hrn =>
      cases hrn
      rename_i s
      obtain ⟨T', H', Φ1, g1, k1, k2, k3⟩ := h2 m (by omega) Φ g00 (Tr.ofL [s]) H (Nat.zero_le _) ⟨argsE_rep (.cons (Rep.data _ (by rfl) hr0) .nil), hs.none⟩
      have k2s := k2.hs
      have hw := k2.tm 2
      rw [e1] at hw
      rw [e2] at k2s k3
      obtain ⟨g', q1, q2, q3⟩ := hs.fresh k2s k3 (a := 1) rfl hw
      exact ⟨_, _, _, _, out hnx k1, q3, q1, q2⟩
  | nil =>
    obtain ⟨exC, sC, kC, NC, cC⟩ := code_sim C HG _ hfS hC
    obtain ⟨nC, eC1, eC2⟩ := onw kC
    refine ⟨NB + NC + 1, fun m hm Φ g H ws hs hr => ?_⟩
    obtain ⟨m, rfl⟩ : ∃ j, m = j + 1 := ⟨m - 1, by omega⟩
    cases hr with
    | cons hr0 hrn =>
      cases hrn
      cases hr0 with
      | sln =>
        obtain ⟨T', H', Φ1, g1, k1, k2, k3⟩ := cB m (by omega) Φ g00 (Tr.ofL [.slice Option.none 0 0]) H (Nat.zero_le _) ⟨argsE_rep (.cons .nils .nil), hs.none⟩
        have k2s := k2.hs
        have hw := k2.tm 2
        rw [eB1] at hw
        rw [eB2] at k2s k3
        obtain ⟨g2, v1, v2, v3⟩ := virt_new k2s c
        have hw0 : ∀ w, Rep Φ1 g1 .nils w → w = .slice Option.none 0 0 := fun w h => by cases h; rfl
        have hw' := hw0 _ hw
        obtain ⟨g', q1, q2, q3⟩ := hs.fresh v1 (k3.trans (v2.weak.nk (Nat.zero_le _))) (a := 0) rfl v3
        exact ⟨_, _, _, _, out nB k1, hw' ▸ q3, q1, q2⟩
      | slb p1 p2 p3 p4 p5 =>
        rename_i b off cap cs n z t rr vs
        have hr0 : Rep Φ g (.sl c []) (.slice (some ⟨b, off, Option.none⟩) 0 cap) := .slb p1 p2 p3 p4 p5
        have hT : ∀ t, Rep Φ g00 (argsE [.sl c []] t) (slotV (cT (.slice (some ⟨b, off, Option.none⟩) 0 cap)) t) := fun t => by
          unfold cT
          rw [slotV_put, slotV_put, slotV_put]
          have hu : ∀ t, t ≠ 0 → ∀ v, f3 v = true → Rep Φ g00 (argsE [.sl c []] t) v := fun t ht v hv => by
            obtain ⟨t, rfl⟩ : ∃ j, t = j + 1 := ⟨t - 1, by omega⟩
            exact .und hv
          split
          · exact hu t (by omega) _ rfl
          · split
            · exact hu t (by omega) _ rfl
            · split
              · exact hu t (by omega) _ rfl
              · exact argsE_rep (.cons (Rep.data _ (by rfl) hr0) .nil) t
        obtain ⟨T', H', Φ1, g1, k1, k2, k3⟩ := cC m (by omega) Φ g00 _ H (Nat.zero_le _) ⟨hT, hs.none⟩
        have k2s := k2.hs
        have hw := k2.tm 2
        rw [eC1] at hw
        rw [eC2] at k2s k3
        obtain ⟨g', q1, q2, q3⟩ := hs.fresh k2s k3 (a := 1) rfl hw
        refine ⟨_, _, _, _, out nC ?_, q3, q1, q2⟩
        have hD := hD b off cap m H
        have e0 : ∀ (x y : Code) (s : St), evCode cx (evFun cx m) (dCall cx m) m (.seq x y) s = (match evCode cx (evFun cx m) (dCall cx m) m x s with | .ok .norm s => evCode cx (evFun cx m) (dCall cx m) m y s | r => r) := fun _ _ _ => rfl
        rw [e0] at hD
        rw [e0]
        generalize evCode cx (evFun cx m) (dCall cx m) m r0 ⟨F.ntmps, Tr.ofL [.slice (some ⟨b, off, Option.none⟩) 0 cap], [], H⟩ = q at hD
        show (match q with | .ok .norm s => evCode cx (evFun cx m) (dCall cx m) m (.seq X S) s | r => r) = _
        split
        · rename_i s1
          have hD : evCode cx (evFun cx m) (dCall cx m) m X s1 = _ := hD
          rw [e0, hD]
          exact k1
        · rename_i hq
          split at hD
          · rename_i s1; exact absurd rfl (hq s1)
          · subst hD; exact absurd rfl (hq _)
end Go.Pv
