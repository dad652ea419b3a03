/- Ext2: the summaries hold: maps.clone, slices.Sorted(maps.Keys(m)). -/
import Derived.Test.YtnohfnepgcdlaaaGreatEmExt
import Derived.Laws.Externs
import Derived.Shelf.SlIter.Nil
import Derived.Sort.KeysCollected
import Derived.Sort.EncStr
import Derived.WideShapes
namespace Go.EvM
set_option linter.unusedSectionVars false
variable [GLs]
open Go.RowKit Go.Maps Go.Sort Go.Shelf Go.WideElems Go.WideMaps Go.Proofs Go.WideShapes
set_option linter.unusedVariables false
variable {P : Program}

theorem clone_ok {f : FuncId} {fn : Func} (hf : P.funcs[f]? = some fn) (hname : (fn.name == "runtime.NumGoroutine") = false)
    (hb : fn.body.isNone = true) (hn : Extern.findNext fn = none) (he : Extern.find fn = some Extern.MapsClone.clone) : SumOk P f cloneE := by
  intro args h v h' e W μ w args' hv R
  unfold cloneE at e
  split at e
  · rename_i t b
    split at e
    · rename_i es hob
      cases e
      cases hv with
      | cons h1 h2 =>
        cases h2
        cases h1 with
        | iface _ h1 =>
          cases h1 with
          | map hm =>
            rename_i bi
            obtain ⟨arr, cl, r1, r2, r3⟩ := R.ob b bi _ hm hob
            have hrun : (Extern.MapsClone.clone #[.iface t (.map (some bi.rb))]).run P w = .ok (.iface t (.map (some w.heap.size))) (w.alloc (.map arr cl)) := by
              change Sem.run P (do
                let .map entries clock ← getObj bi.rb | stuck "maps.clone: a map expected"
                pure (Value.iface t (.map (some (← newObj (.map entries clock)))))) w = _
              simp only [Sem.run_bind, get_map r1, Result.andThen_ok, run_newObj_alloc, Sem.run_pure]
            have hfr : μ h.n = none := R.fresh (Nat.le_refl _)
            rw [run_callFunc_extern hf hname hb hn he, hrun]
            refine ⟨μ.set h.n ⟨w.heap.size, 0, 0, 0, 0, default⟩, .iface t (.map (Mu.set_eq _ _ _)), ?_, Mu.ext_set hfr (Nat.le_refl _), Nat.le_succ _⟩
            exact R.alloc (h' := ⟨Nat.succ h.n, _⟩) hfr rfl (Nat.le_succ _) (Nat.lt_succ_self _) (Tr.get_put_eq _ _ _) (fun c j hc => Tr.get_put_ne _ _ (fun (e : c = h.n) => by subst e; rw [hfr] at hc; cases hc)) ⟨_, rfl⟩ rfl rfl rfl
              ⟨arr, cl, heap_new w _, R.below.size, r3.mono (Mu.le_set hfr)⟩
    · cases e
  · cases e

theorem noEsc_ok {f : FuncId} {fn : Func} (hf : P.funcs[f]? = some fn) (hname : (fn.name == "runtime.NumGoroutine") = false)
    (hb : fn.body.isNone = true) (hn : Extern.findNext fn = none) (he : Extern.find fn = some Extern.AbiNoEscape.same) : SumOk P f noEscE := by
  intro args h v h' e W μ w args' hv R
  unfold noEscE at e
  split at e
  · cases e
    cases hv with
    | cons h1 h2 =>
      cases h2
      rename_i x'
      have hrun : (Extern.AbiNoEscape.same #[x']).run P w = .ok x' w := rfl
      rw [run_callFunc_extern hf hname hb hn he, hrun]
      exact ⟨μ, h1, R, Ext.refl _ _, Nat.le_refl _⟩
  · cases e

/-! ### Sorting texts -/
theorem ltL_dec (x y : List UInt8) : ltL x y = decide (x < y) := by
  rw [ltL_eq]
  induction x generalizing y with
  | nil => cases y <;> simp [Op.bytesLess]
  | cons a x ih =>
    cases y with
    | nil => simp [Op.bytesLess]
    | cons b y =>
      simp only [Op.bytesLess, ih, List.cons_lt_cons_iff]
      by_cases h : a < b
      · simp [h]
      · by_cases h2 : b < a
        · have : ¬ a = b := by rintro rfl; exact h h2
          simp [h, this]
        · have h3 : a = b := by rw [← UInt8.toNat_inj]; simp [UInt8.lt_iff_toNat_lt] at *; omega
          subst h3
          simp [h]

theorem insL_perm (x : List UInt8) : ∀ l, (insL x l).Perm (x :: l)
  | [] => List.Perm.refl _
  | y :: l => by
    show (bif ltL y x then y :: insL x l else x :: y :: l).Perm _
    cases ltL y x with
    | true => exact ((insL_perm x l).cons y).trans (List.Perm.swap x y l)
    | false => exact List.Perm.refl _
theorem sortL_perm : ∀ l, (sortL l).Perm l
  | [] => List.Perm.refl _
  | x :: l => (insL_perm x (sortL l)).trans ((sortL_perm l).cons x)
theorem insL_sorted (x : List UInt8) : ∀ l, l.Pairwise (· ≤ ·) → (insL x l).Pairwise (· ≤ ·)
  | [], _ => by show [x].Pairwise _; simp
  | y :: l, h => by
    show (bif ltL y x then y :: insL x l else x :: y :: l).Pairwise _
    rw [ltL_dec]
    rw [List.pairwise_cons] at h
    by_cases hyx : y < x
    · simp only [hyx, decide_true, cond_true]
      rw [List.pairwise_cons]
      refine ⟨fun z hz => ?_, insL_sorted x l h.2⟩
      have := (insL_perm x l).mem_iff.1 hz
      rcases List.mem_cons.1 this with rfl | hz
      · exact List.le_of_lt hyx
      · exact h.1 z hz
    · simp only [hyx, decide_false, cond_false]
      have hxy : x ≤ y := List.not_lt.1 hyx
      rw [List.pairwise_cons]
      exact ⟨fun z hz => by
        rcases List.mem_cons.1 hz with rfl | hz
        · exact hxy
        · exact List.le_trans hxy (h.1 z hz), List.pairwise_cons.2 h⟩
theorem sortL_sorted : ∀ l, (sortL l).Pairwise (· ≤ ·)
  | [] => .nil
  | x :: l => insL_sorted x _ (sortL_sorted l)
theorem sortL_merge {l ss : List (List UInt8)} (h : ss.Perm l) : ss.mergeSort (fun x y => decide (x ≤ y)) = sortL l := by
  have tr : ∀ a b c : List UInt8, decide (a ≤ b) = true → decide (b ≤ c) = true → decide (a ≤ c) = true := fun a b c h1 h2 => by simp only [decide_eq_true_eq] at *; exact List.le_trans h1 h2
  have to : ∀ a b : List UInt8, (decide (a ≤ b) || decide (b ≤ a)) = true := fun a b => by simp only [Bool.or_eq_true, decide_eq_true_eq]; exact List.le_total a b
  refine List.Perm.eq_of_pairwise (le := fun a b => a ≤ b) (fun a b _ _ h1 h2 => List.le_antisymm h1 h2) ((List.pairwise_mergeSort tr to ss).imp fun h => by simpa using h) (sortL_sorted l) (((List.mergeSort_perm ss _).trans h).trans (sortL_perm l).symm)

/-! ### The keys -/
theorem keysL_cons (k v : Value) (es : List (Value × Value)) : keysL ((k, v) :: es) = (match k, keysL es with | .string s, some l => some (s.data.toList :: l) | _, _ => none) := rfl
theorem keysL_iff : ∀ {es : List (Value × Value)} {ks : List (List UInt8)}, keysL es = some ks → es.map (·.1) = ks.map fun k => Value.string ⟨⟨k⟩⟩
  | [], ks, h => by cases h; rfl
  | (k, v) :: es, ks, h => by
    rw [keysL_cons] at h
    split at h
    · rename_i s l hl
      cases h
      rw [List.map_cons, List.map_cons, keysL_iff hl]
    · cases h
theorem keysOk_iff : ∀ {l : List (List UInt8)}, keysOk l = true → (∀ x ∈ l, x.length < lim63) ∧ l.Nodup
  | [], _ => ⟨fun e h => by simp at h, List.nodup_nil⟩
  | x :: l, h => by
    have h : (Nat.blt x.length lim63 && !(memL x l) && keysOk l) = true := h
    rw [Bool.and_eq_true, Bool.and_eq_true] at h
    obtain ⟨⟨h1, h2⟩, h3⟩ := h
    obtain ⟨g1, g2⟩ := keysOk_iff h3
    refine ⟨fun y hy => ?_, List.nodup_cons.2 ⟨fun hm => ?_, g2⟩⟩
    · rcases List.mem_cons.1 hy with rfl | hy
      · exact blt_lt h1
      · exact g1 y hy
    · have : memL x l = true := List.any_eq_true.2 ⟨x, hm, by rw [eqL_eq]; simp⟩
      rw [this] at h2; simp at h2

/-- How the library tells it (laid at a dump by lay-iter.mjs' way). -/
def SortedTells (P : Program) (f g : FuncId) (kt : TypeId) : Prop :=
  ∀ (blk b nn : Nat) (D0 : DataW Unit) (R : Value → Option (DataW Unit × List MemPlace)) (w : World), blk < w.heap.size → w.cell? ⟨blk, 0, none⟩ = some (.map (some b)) → w.ownsMap P kt R b nn D0 → Maps.size D0 ≤ maxLen → Maps.size D0 * 16 ≤ 140737488355328 →
    Calls P f #[.func (.func g) #[] #[.pointer (some ⟨blk, 0, none⟩)]] w fun e w' => ∃ (v : Value) (ss : List (List UInt8)), e = .returned v ∧ ss.Perm (strKeys D0) ∧
      w'.ownsRow w.heap.size kt 1 v ss.length ((ss.mergeSort (fun x y => decide (x ≤ y))).map encStr) ∧ (v = .slice none 0 0 ↔ ss = []) ∧ Below w.heap.size w w'

theorem Rel.later {W : World} {μ : Mu} {h : Hp} {w w' : World} (R : Rel W μ h w) (hb : Below w.heap.size w w') : Rel W μ h w' :=
  ⟨R.gl, R.dom, fun b i o h1 h2 => have ro := R.ob b i o h1 h2; ro.move (Le.refl _) (hb.block _ ro.old), R.inj, R.below.trans (hb.mono R.below.size)⟩

/-- A block that came about in a call, told whole. -/
theorem Rel.found {W : World} {μ : Mu} {h : Hp} {w w' : World} (R : Rel W μ h w) (hb : Below w.heap.size w w') {i : BI} {ob : Ob} (hg : w.heap.size ≤ i.rb) (hr : RelOb (μ.set h.n i) W.heap.size w' i ob) :
    Rel W (μ.set h.n i) ⟨h.n + 1, h.b.put h.n ob⟩ w' := by
  have hfr : μ h.n = none := R.fresh (Nat.le_refl _)
  have hne : ∀ {c j}, μ c = some j → c ≠ h.n := fun hc e => by rw [e, hfr] at hc; cases hc
  have key : ∀ {c j}, (μ.set h.n i) c = some j → (c = h.n ∧ j = i) ∨ μ c = some j := fun {c j} hc => by
    unfold Mu.set at hc; split at hc
    · cases hc; rename_i e; exact .inl ⟨e, rfl⟩
    · exact .inr hc
  refine ⟨R.gl, fun c j hc => ?_, fun c j o hc ho => ?_, fun c d j k o p hc hd ho hp wo wp hjk => ?_, R.below.trans (hb.mono R.below.size)⟩
  · rcases key hc with ⟨rfl, _⟩ | hc
    · exact Nat.lt_succ_self _
    · exact Nat.lt_succ_of_lt (R.dom c j hc)
  · rcases key hc with ⟨rfl, rfl⟩ | hc
    · rw [Tr.get_put_eq] at ho; cases ho; exact hr
    · rw [Tr.get_put_ne _ _ (hne hc)] at ho
      have ro := R.ob c j o hc ho
      exact ro.move (Mu.le_set hfr) (hb.block _ ro.old)
  · have old : ∀ {c j o}, μ c = some j → (h.b.put h.n ob).get c = some o → j.rb < w.heap.size ∧ h.b.get c = some o := fun {c j o} hc ho => by
      rw [Tr.get_put_ne _ _ (hne hc)] at ho
      exact ⟨(R.ob c j o hc ho).old, ho⟩
    rcases key hc with ⟨e1, e2⟩ | hc' <;> rcases key hd with ⟨e3, e4⟩ | hd'
    · rw [e1, e3]
    · have := (old hd' hp).1; rw [e2] at hjk; omega
    · have := (old hc' ho).1; rw [e4] at hjk; omega
    · exact R.inj c d j k o p hc' hd' (old hc' ho).2 (old hd' hp).2 wo wp hjk

theorem sorted_ok {f g : FuncId} {kt : TypeId} {fn : Func} {c : Code} (hk : P.underlying kt = some .string) (hf : P.funcs[f]? = some fn) (hname : (fn.name == "runtime.NumGoroutine") = false) (hb : fn.body = some c) (H : SortedTells P f g kt) : SumOk P f (sortedE g) := by
  intro args h v h' e W μ w args' hv R
  rw [MuLone.run_callFunc_enter hf hname hb]
  unfold sortedE at e
  split at e
  · rename_i g' a c
    split at e
    · rename_i b hg ha hc
      have hg := Nat.eq_of_beq_eq_true hg
      subst hg
      obtain ⟨a⟩ := a; obtain ⟨c⟩ := c
      dsimp only at ha hc; subst ha; subst hc
      unfold loadT at e
      split at e
      · rename_i m hld
        split at hld
        · rename_i cc n z t ro hob
          split at hld
          · split at e
            · rename_i es hm
              split at e
              · rename_i ks hks
                cases hchk : keysOk ks && Nat.blt (Nat.mul es.length 16) 140737488355328 with
                | false => rw [hchk] at e; cases e
                | true =>
                  rw [hchk] at e
                  simp only [cond_true] at e
                  rw [Bool.and_eq_true] at hchk
                  obtain ⟨k2, k3⟩ := hchk
                  obtain ⟨ky1, ky2⟩ := keysOk_iff k2
                  have k3 := blt_lt k3
                  have hkeys := keysL_iff hks
                  cases hv with
                  | cons h1 h2 =>
                    cases h2
                    cases h1 with
                    | func _ q1 q2 =>
                      cases q1
                      cases q2 with
                      | cons q2 q3 =>
                        cases q3
                        cases q2 with
                        | ptr _ hμ =>
                          rename_i bi
                          obtain ⟨cs, et, fz, r1, r2, r3, r4, r5, r6, r7, r8, r9⟩ := R.ob b bi _ hμ hob
                          obtain ⟨rx, rd⟩ := r4 rfl
                          have h0n : 0 < n := by
                            rcases Nat.eq_zero_or_pos n with h0 | h0
                            · rw [r6 0 (by omega)] at hld; cases hld
                            · exact h0
                          obtain ⟨a0, v0, z1, z2, z3, z4⟩ := r7 0 h0n
                          rw [hld] at z1; cases z1
                          cases z3 with
                          | map hmμ =>
                            rename_i mi
                            obtain ⟨arr, cl, m1, m2, m3⟩ := R.ob m mi _ hmμ hm
                            have hlt : bi.rb < w.heap.size := (Array.getElem?_eq_some_iff.1 r1).1
                            have hcell : w.cell? ⟨bi.rb, 0, none⟩ = some (.map (some mi.rb)) := by
                              rw [rd] at z2
                              simp [World.cell?, r1]; simpa using z2
                            have hkp : (arr.toList.map (·.key)).Perm (ks.map fun k => Value.string ⟨⟨k⟩⟩) := by rw [← hkeys]; exact m3.rkeys
                            have hlen : arr.size = es.length := m3.length
                            have hl63 := lim63_eq
                            have hml : maxLen = 9223372036854775807 := by decide
                            have hread : ∀ x ∈ arr.toList, ∃ k, k ∈ ks ∧ x.key = .string ⟨⟨k⟩⟩ ∧ keyOf P kt x.key = some (.string k) := fun x hx => by
                              have : x.key ∈ arr.toList.map (·.key) := List.mem_map_of_mem hx
                              obtain ⟨k, hk1, hk2⟩ := List.mem_map.1 (hkp.mem_iff.1 this)
                              refine ⟨k, hk1, hk2.symm, ?_⟩
                              rw [← hk2, keyOf_string_mk hk (by have := ky1 k hk1; rw [size_len]; simp only; omega)]
                            have hrd : ∀ x ∈ arr.toList, ∀ k, x.key = .string ⟨⟨k⟩⟩ → WideElems.rg P kt (fun _ => some ((.nil : DataW Unit), [])) x = (.string k, .nil) := fun x hx k hxk => by
                              obtain ⟨k', _, e1, e2⟩ := hread x hx
                              rw [hxk] at e1
                              have : k = k' := by cases e1; rfl
                              subst this
                              simp [WideElems.rg, WideElems.rd, e2]
                            have hfit : WideElems.Fit P kt (fun _ => some ((.nil : DataW Unit), [])) arr cl := by
                              refine ⟨by rw [hlen, hml]; have : Nat.mul es.length 16 = es.length * 16 := rfl; omega, ⟨fun x hx => m3.born x hx, m3.once, ?_⟩, fun x hx => ?_⟩
                              · exact hkp.nodup_iff.2 (List.pairwise_map.2 (ky2.imp fun hne he => hne (by cases he; rfl)))
                              · obtain ⟨k', _, e1, e2⟩ := hread x hx
                                exact ⟨(.string k', .nil), by simp [WideElems.rd, e2]⟩
                            have hsize : Maps.size (.map ((arr.toList.map (rg P kt (fun _ => some ((.nil : DataW Unit), [])))).foldr DataW.insert [])) = es.length := by
                              show ((arr.toList.map (rg P kt (fun _ => some ((.nil : DataW Unit), [])))).foldr DataW.insert []).length = _
                              rw [length_sorted]; simp [hlen]
                            have hks2 : (arr.toList.map (rg P kt (fun _ => some ((.nil : DataW Unit), [])))).map (fun p => strOf p.1) = arr.toList.map fun x => (match x.key with | .string s => s.data.toList | _ => []) := by
                              rw [List.map_map]
                              refine List.map_congr_left fun x hx => ?_
                              obtain ⟨k, hk1, hk2, _⟩ := hread x hx
                              simp only [Function.comp, hrd x hx k hk2, hk2]
                              rfl
                            have hks3 : (arr.toList.map fun x => (match x.key with | .string s => s.data.toList | _ => [])).Perm ks := by
                              have h1 := hkp.map fun v : Value => (match v with | .string s => s.data.toList | _ => [])
                              rw [List.map_map, List.map_map] at h1
                              have h2 : ks.map ((fun v : Value => (match v with | .string s => s.data.toList | _ => [])) ∘ fun k => Value.string ⟨⟨k⟩⟩) = ks := by
                                conv => rhs; rw [← List.map_id ks]
                                rfl
                              rw [h2] at h1
                              exact h1
                            have hperm2 : (strKeys (.map ((arr.toList.map (rg P kt (fun _ => some ((.nil : DataW Unit), [])))).foldr DataW.insert []))).Perm ks := by
                              show (((arr.toList.map (rg P kt (fun _ => some ((.nil : DataW Unit), [])))).foldr DataW.insert []).map fun p => strOf p.1).Perm ks
                              refine ((sorted_perm _).map _).trans ?_
                              rw [hks2]
                              exact hks3
                            have hcall := H bi.rb mi.rb arr.size _ _ w hlt hcell ⟨arr, cl, m1, hfit, Nat.le_refl _, rfl⟩ (by rw [hsize, hml]; have : Nat.mul es.length 16 = es.length * 16 := rfl; omega) (by rw [hsize]; exact Nat.le_of_lt k3)
                            have hd0 : bi.d + 0 = 0 := by omega
                            rw [hd0]
                            refine Calls.mono hcall ?_
                            rintro e' w' ⟨v', ss, rfl, hS, hrow, hnil, hbel⟩
                            refine ⟨v', rfl, ?_⟩
                            have hSk : ss.Perm ks := hS.trans hperm2
                            have hlk := (sortL_perm ks).length_eq
                            have hls := hSk.length_eq
                            rw [sortL_merge hSk] at hrow
                            split at e
                            · rename_i hsl
                              cases e
                              rw [hsl] at hlk
                              have hss : ss = [] := List.length_eq_zero_iff.1 (by rw [hls, ← hlk]; rfl)
                              rw [hnil.2 hss]
                              exact ⟨μ, .nils, R.later hbel, Ext.refl _ _, Nat.le_refl _⟩
                            · rename_i hsl
                              cases e
                              obtain ⟨o1, ⟨o2, o3⟩ | ⟨gg, cap, cur, o2, o3, o4, o5, o6, o7, o8⟩⟩ := hrow
                              · exact absurd (List.length_eq_zero_iff.1 (by rw [hlk, ← hls]; exact o3)) hsl
                              · subst o2
                                have hfr : μ h.n = none := R.fresh (Nat.le_refl _)
                                have hN := R.below.size
                                refine ⟨μ.set h.n ⟨gg, 0, (sortL ks).length, 1, cap - (sortL ks).length, default⟩, ?_, R.found hbel (by simpa using o3) ?_, Mu.ext_set hfr (Nat.le_refl _), Nat.le_succ _⟩
                                · have := VR.slice (μ := μ.set h.n ⟨gg, 0, (sortL ks).length, 1, cap - (sortL ks).length, default⟩) 0 (sortL ks).length (sortL ks).length (cap - (sortL ks).length) ⟨gg, 0, none⟩ (Mu.set_eq _ _ _) (Nat.le_refl _) (.inr ⟨Nat.le_refl _, by simp⟩) (.inl rfl)
                                  rw [show (sortL ks).length + (cap - (sortL ks).length) = cap by omega] at this
                                  rw [hls, ← hlk]
                                  exact this
                                · refine ⟨cur, kt, (0, 0), o4, ⟨rfl, fun t ht => by cases ht⟩, rfl, fun h => by simp at h, by simp only; omega, fun j hj => ?_, fun j hj => ?_, fun h => by simp at h, fun _ => ⟨by simp only; omega, fun j _ => by simp⟩⟩
                                  · rw [Tr.get_ofL, List.getElem?_eq_none]; simpa using hj
                                  · have hj' : j < (sortL ks).length := hj
                                    refine ⟨.string ⟨⟨(sortL ks)[j]⟩⟩, .string ⟨⟨(sortL ks)[j]⟩⟩, ?_, ?_, .string _, rfl⟩
                                    · rw [Tr.get_ofL, List.getElem?_map, List.getElem?_eq_getElem hj']; rfl
                                    · have h8 : (cur.toList.take (ss.length * 1))[j]? = ((sortL ks).map encStr)[j]? := by rw [o8]
                                      rw [List.getElem?_take, if_pos (by omega), List.getElem?_map, List.getElem?_eq_getElem hj'] at h8
                                      rw [Nat.zero_add]
                                      simpa [encStr] using h8
              · cases e
            · cases e
          · cases hld
        · cases hld
      · cases e
    · cases e
  · cases e

end Go.EvM
