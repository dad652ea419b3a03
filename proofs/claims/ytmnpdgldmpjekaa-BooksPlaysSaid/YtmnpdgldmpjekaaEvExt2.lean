/- Ext2: the summaries hold: maps.clone, slices.Sorted(maps.Keys(m)). -/
import Derived.Test.YtmnpdgldmpjekaaEvExt
import Derived.Laws.Externs
import Derived.Shelf.SlIter.Nil
import Derived.Sort.KeysCollected
import Derived.Sort.EncStr
import Derived.WideShapes
namespace Go.EvM
open Go.RowKit Go.Maps Go.Sort Go.Shelf Go.WideElems Go.WideMaps Go.Proofs Go.WideShapes
set_option linter.unusedVariables false
variable {P : Program}

theorem clone_ok {f : FuncId} {fn : Func} (hf : P.funcs[f]? = some fn) (hname : (fn.name == "runtime.NumGoroutine") = false)
    (hb : fn.body.isNone = true) (hn : Extern.findNext fn = none) (he : Extern.find fn = some Extern.MapsClone.clone) : SumOk P f cloneE := by
  intro args h v h' e W μ w args' hv R
  unfold cloneE at e
  split at e
  · rename_i t b
    split at e
    · rename_i es cl hob
      cases e
      cases hv with
      | cons h1 h2 =>
        cases h2
        cases h1 with
        | iface _ h1 =>
          cases h1 with
          | map hm =>
            rename_i bi
            obtain ⟨arr, r1, r2, r3⟩ := R.ob b bi _ hm hob
            have hrun : (Extern.MapsClone.clone #[.iface t (.map (some bi.rb))]).run P w = .ok (.iface t (.map (some w.heap.size))) (w.alloc (.map arr cl)) := by
              change Sem.run P (do
                let .map entries clock ← getObj bi.rb | stuck "maps.clone: a map expected"
                pure (Value.iface t (.map (some (← newObj (.map entries clock)))))) w = _
              simp only [Sem.run_bind, get_map r1, Result.andThen_ok, run_newObj_alloc, Sem.run_pure]
            have hfr : μ h.n = none := R.fresh (Nat.le_refl _)
            rw [run_callFunc_extern hf hname hb hn he, hrun]
            refine ⟨μ.set h.n ⟨w.heap.size, 0, 0, 0, 0⟩, .iface t (.map (Mu.set_eq _ _ _)), ?_, Mu.ext_set hfr (Nat.le_refl _), Nat.le_succ _⟩
            exact R.alloc (h' := ⟨Nat.succ h.n, _⟩) hfr rfl (Nat.le_succ _) (Nat.lt_succ_self _) (Tr.get_put_eq _ _ _) (fun c j hc => Tr.get_put_ne _ _ (fun (e : c = h.n) => by subst e; rw [hfr] at hc; cases hc)) ⟨_, rfl⟩ rfl rfl rfl
              ⟨arr, heap_new w _, R.below.size, r3.mono (Mu.le_set hfr)⟩
    · cases e
  · cases e

/-! ### Sorting texts -/
theorem ltL_dec (x y : List UInt8) : ltL x y = decide (x < y) := by
  rw [ltL_eq]
  induction x generalizing y with
  | nil => cases y <;> simp [Op.bytesLess]
  | cons a x ih =>
    cases y with
    | nil => simp [Op.bytesLess]
    | cons b y =>
      simp only [Op.bytesLess, ih, List.cons_lt_cons_iff]
      by_cases h : a < b
      · simp [h]
      · by_cases h2 : b < a
        · have : ¬ a = b := by rintro rfl; exact h h2
          simp [h, this]
        · have h3 : a = b := by rw [← UInt8.toNat_inj]; simp [UInt8.lt_iff_toNat_lt] at *; omega
          subst h3
          simp [h]

theorem insL_perm (x : List UInt8) : ∀ l, (insL x l).Perm (x :: l)
  | [] => List.Perm.refl _
  | y :: l => by
    show (bif ltL y x then y :: insL x l else x :: y :: l).Perm _
    cases ltL y x with
    | true => exact ((insL_perm x l).cons y).trans (List.Perm.swap x y l)
    | false => exact List.Perm.refl _
theorem sortL_perm : ∀ l, (sortL l).Perm l
  | [] => List.Perm.refl _
  | x :: l => (insL_perm x (sortL l)).trans ((sortL_perm l).cons x)
theorem insL_sorted (x : List UInt8) : ∀ l, l.Pairwise (· ≤ ·) → (insL x l).Pairwise (· ≤ ·)
  | [], _ => by show [x].Pairwise _; simp
  | y :: l, h => by
    show (bif ltL y x then y :: insL x l else x :: y :: l).Pairwise _
    rw [ltL_dec]
    rw [List.pairwise_cons] at h
    by_cases hyx : y < x
    · simp only [hyx, decide_true, cond_true]
      rw [List.pairwise_cons]
      refine ⟨fun z hz => ?_, insL_sorted x l h.2⟩
      have := (insL_perm x l).mem_iff.1 hz
      rcases List.mem_cons.1 this with rfl | hz
      · exact List.le_of_lt hyx
      · exact h.1 z hz
    · simp only [hyx, decide_false, cond_false]
      have hxy : x ≤ y := List.not_lt.1 hyx
      rw [List.pairwise_cons]
      exact ⟨fun z hz => by
        rcases List.mem_cons.1 hz with rfl | hz
        · exact hxy
        · exact List.le_trans hxy (h.1 z hz), List.pairwise_cons.2 h⟩
theorem sortL_sorted : ∀ l, (sortL l).Pairwise (· ≤ ·)
  | [] => .nil
  | x :: l => insL_sorted x _ (sortL_sorted l)
theorem sortL_merge {l ss : List (List UInt8)} (h : ss.Perm l) : ss.mergeSort (fun x y => decide (x ≤ y)) = sortL l := by
  have tr : ∀ a b c : List UInt8, decide (a ≤ b) = true → decide (b ≤ c) = true → decide (a ≤ c) = true := fun a b c h1 h2 => by simp only [decide_eq_true_eq] at *; exact List.le_trans h1 h2
  have to : ∀ a b : List UInt8, (decide (a ≤ b) || decide (b ≤ a)) = true := fun a b => by simp only [Bool.or_eq_true, decide_eq_true_eq]; exact List.le_total a b
  refine List.Perm.eq_of_pairwise (le := fun a b => a ≤ b) (fun a b _ _ h1 h2 => List.le_antisymm h1 h2) ((List.pairwise_mergeSort tr to ss).imp fun h => by simpa using h) (sortL_sorted l) (((List.mergeSort_perm ss _).trans h).trans (sortL_perm l).symm)

/-! ### The keys -/
theorem stampsOk_iff {cl : Nat} : ∀ {es : List (Value × Value × Nat)}, stampsOk cl es = true → (∀ e ∈ es, e.2.2 < cl) ∧ (es.map fun e => e.2.2).Nodup
  | [], _ => ⟨fun e h => by simp at h, List.nodup_nil⟩
  | e :: es, h => by
    have h : (Nat.blt e.2.2 cl && es.all (fun f => !(Nat.beq e.2.2 f.2.2)) && stampsOk cl es) = true := h
    rw [Bool.and_eq_true, Bool.and_eq_true] at h
    obtain ⟨⟨h1, h2⟩, h3⟩ := h
    obtain ⟨g1, g2⟩ := stampsOk_iff h3
    refine ⟨fun x hx => ?_, ?_⟩
    · rcases List.mem_cons.1 hx with rfl | hx
      · exact blt_lt h1
      · exact g1 x hx
    · rw [List.map_cons, List.nodup_cons]
      refine ⟨fun hm => ?_, g2⟩
      obtain ⟨f, hf, he⟩ := List.mem_map.1 hm
      have := List.all_eq_true.1 h2 f hf
      rw [he] at this
      simp at this
theorem keysL_cons (k v : Value) (b : Nat) (es : List (Value × Value × Nat)) : keysL ((k, v, b) :: es) = (match k, keysL es with | .string s, some l => some (s.data.toList :: l) | _, _ => none) := rfl
theorem keysL_iff : ∀ {es : List (Value × Value × Nat)} {ks : List (List UInt8)}, keysL es = some ks → es.map (·.1) = ks.map fun k => Value.string ⟨⟨k⟩⟩
  | [], ks, h => by cases h; rfl
  | (k, v, b) :: es, ks, h => by
    rw [keysL_cons] at h
    split at h
    · rename_i s l hl
      cases h
      rw [List.map_cons, List.map_cons, keysL_iff hl]
    · cases h
theorem keysOk_iff : ∀ {l : List (List UInt8)}, keysOk l = true → (∀ x ∈ l, x.length < lim63) ∧ l.Nodup
  | [], _ => ⟨fun e h => by simp at h, List.nodup_nil⟩
  | x :: l, h => by
    have h : (Nat.blt x.length lim63 && !(memL x l) && keysOk l) = true := h
    rw [Bool.and_eq_true, Bool.and_eq_true] at h
    obtain ⟨⟨h1, h2⟩, h3⟩ := h
    obtain ⟨g1, g2⟩ := keysOk_iff h3
    refine ⟨fun y hy => ?_, List.nodup_cons.2 ⟨fun hm => ?_, g2⟩⟩
    · rcases List.mem_cons.1 hy with rfl | hy
      · exact blt_lt h1
      · exact g1 y hy
    · have : memL x l = true := List.any_eq_true.2 ⟨x, hm, by rw [eqL_eq]; simp⟩
      rw [this] at h2; simp at h2

theorem EntR.keys {μ : Mu} : ∀ {es : List (Value × Value × Nat)} {r : List MapEntry} {ks : List (List UInt8)}, EntR μ es r → es.map (·.1) = (ks.map fun k => Value.string ⟨⟨k⟩⟩) → r.map (·.key) = ks.map fun k => Value.string ⟨⟨k⟩⟩
  | [], [], ks, _, h => h
  | (a, v, b) :: es, x :: r, ks, ⟨h1, h2, h3, h4⟩, h => by
    cases ks with
    | nil => simp at h
    | cons k ks =>
      simp only [List.map_cons, List.cons.injEq] at h ⊢
      obtain ⟨rfl, h⟩ := h
      refine ⟨?_, EntR.keys h4 h⟩
      generalize x.key = y at h1
      cases h1; rfl
  | [], _ :: _, _, h, _ => h.elim
  | _ :: _, [], _, h, _ => h.elim
theorem EntR.borns {μ : Mu} : ∀ {es : List (Value × Value × Nat)} {r : List MapEntry}, EntR μ es r → r.map (·.born) = es.map fun e => e.2.2
  | [], [], _ => rfl
  | (a, v, b) :: es, x :: r, ⟨h1, h2, h3, h4⟩ => by simp [h3, EntR.borns h4]
  | [], _ :: _, h => h.elim
  | _ :: _, [], h => h.elim

/-- How the library tells it (laid at a dump by lay-iter.mjs' way). -/
def SortedTells (P : Program) (f g : FuncId) (kt : TypeId) : Prop :=
  ∀ (blk b nn : Nat) (D0 : DataW Unit) (R : Value → Option (DataW Unit × List MemPlace)) (w : World), blk < w.heap.size → w.cell? ⟨blk, 0, none⟩ = some (.map (some b)) → w.ownsMap P kt R b nn D0 → Maps.size D0 ≤ maxLen → Maps.size D0 * 16 ≤ 140737488355328 →
    Calls P f #[.func (.func g) #[] #[.pointer (some ⟨blk, 0, none⟩)]] w fun e w' => ∃ (v : Value) (ss : List (List UInt8)), e = .returned v ∧ ss.Perm (strKeys D0) ∧
      w'.ownsRow w.heap.size kt 1 v ss.length ((ss.mergeSort (fun x y => decide (x ≤ y))).map encStr) ∧ (v = .slice none 0 0 ↔ ss = []) ∧ Below w.heap.size w w'

theorem Rel.later {W : World} {μ : Mu} {h : Hp} {w w' : World} (R : Rel W μ h w) (hb : Below w.heap.size w w') : Rel W μ h w' :=
  ⟨R.dom, fun b i o h1 h2 => have ro := R.ob b i o h1 h2; ro.move (Le.refl _) (hb.block _ ro.old), R.inj, R.below.trans (hb.mono R.below.size)⟩

/-- A block that came about in a call, told whole. -/
theorem Rel.found {W : World} {μ : Mu} {h : Hp} {w w' : World} (R : Rel W μ h w) (hb : Below w.heap.size w w') {i : BI} {ob : Ob} (hg : w.heap.size ≤ i.rb) (hr : RelOb (μ.set h.n i) W.heap.size w' i ob) :
    Rel W (μ.set h.n i) ⟨h.n + 1, h.b.put h.n ob⟩ w' := by
  have hfr : μ h.n = none := R.fresh (Nat.le_refl _)
  have hne : ∀ {c j}, μ c = some j → c ≠ h.n := fun hc e => by rw [e, hfr] at hc; cases hc
  have key : ∀ {c j}, (μ.set h.n i) c = some j → (c = h.n ∧ j = i) ∨ μ c = some j := fun {c j} hc => by
    unfold Mu.set at hc; split at hc
    · cases hc; rename_i e; exact .inl ⟨e, rfl⟩
    · exact .inr hc
  refine ⟨fun c j hc => ?_, fun c j o hc ho => ?_, fun c d j k o p hc hd ho hp wo wp hjk => ?_, R.below.trans (hb.mono R.below.size)⟩
  · rcases key hc with ⟨rfl, _⟩ | hc
    · exact Nat.lt_succ_self _
    · exact Nat.lt_succ_of_lt (R.dom c j hc)
  · rcases key hc with ⟨rfl, rfl⟩ | hc
    · rw [Tr.get_put_eq] at ho; cases ho; exact hr
    · rw [Tr.get_put_ne _ _ (hne hc)] at ho
      have ro := R.ob c j o hc ho
      exact ro.move (Mu.le_set hfr) (hb.block _ ro.old)
  · have old : ∀ {c j o}, μ c = some j → (h.b.put h.n ob).get c = some o → j.rb < w.heap.size ∧ h.b.get c = some o := fun {c j o} hc ho => by
      rw [Tr.get_put_ne _ _ (hne hc)] at ho
      exact ⟨(R.ob c j o hc ho).old, ho⟩
    rcases key hc with ⟨e1, e2⟩ | hc' <;> rcases key hd with ⟨e3, e4⟩ | hd'
    · rw [e1, e3]
    · have := (old hd' hp).1; rw [e2] at hjk; omega
    · have := (old hc' ho).1; rw [e4] at hjk; omega
    · exact R.inj c d j k o p hc' hd' (old hc' ho).2 (old hd' hp).2 wo wp hjk

theorem sorted_ok {f g : FuncId} {kt : TypeId} {fn : Func} {c : Code} (hk : P.underlying kt = some .string) (hf : P.funcs[f]? = some fn) (hname : (fn.name == "runtime.NumGoroutine") = false) (hb : fn.body = some c) (H : SortedTells P f g kt) : SumOk P f (sortedE g) := by
  intro args h v h' e W μ w args' hv R
  rw [MuLone.run_callFunc_enter hf hname hb]
  unfold sortedE at e
  split at e
  · rename_i g' a c
    split at e
    · rename_i b hg ha hc
      have hg := Nat.eq_of_beq_eq_true hg
      subst hg
      obtain ⟨a⟩ := a; obtain ⟨c⟩ := c
      dsimp only at ha hc; subst ha; subst hc
      unfold loadT at e
      split at e
      · rename_i m hld
        split at hld
        · rename_i cc n z t ro hob
          split at hld
          · split at e
            · rename_i es cl hm
              split at e
              · rename_i ks hks
                cases hchk : stampsOk cl es && keysOk ks && Nat.blt (Nat.mul es.length 16) 140737488355328 with
                | false => rw [hchk] at e; cases e
                | true =>
                  rw [hchk] at e
                  simp only [cond_true] at e
                  rw [Bool.and_eq_true, Bool.and_eq_true] at hchk
                  obtain ⟨⟨k1, k2⟩, k3⟩ := hchk
                  obtain ⟨st1, st2⟩ := stampsOk_iff k1
                  obtain ⟨ky1, ky2⟩ := keysOk_iff k2
                  have k3 := blt_lt k3
                  have hkeys := keysL_iff hks
                  cases hv with
                  | cons h1 h2 =>
                    cases h2
                    cases h1 with
                    | func _ q1 q2 =>
                      cases q1
                      cases q2 with
                      | cons q2 q3 =>
                        cases q3
                        cases q2 with
                        | ptr _ hμ =>
                          rename_i bi
                          obtain ⟨cs, et, fz, r1, r2, r3, r4, r5, r6, r7, r8, r9⟩ := R.ob b bi _ hμ hob
                          obtain ⟨rx, rd⟩ := r4 rfl
                          have h0n : 0 < n := by
                            rcases Nat.eq_zero_or_pos n with h0 | h0
                            · rw [r6 0 (by omega)] at hld; cases hld
                            · exact h0
                          obtain ⟨a0, v0, z1, z2, z3, z4⟩ := r7 0 h0n
                          rw [hld] at z1; cases z1
                          cases z3 with
                          | map hmμ =>
                            rename_i mi
                            obtain ⟨arr, m1, m2, m3⟩ := R.ob m mi _ hmμ hm
                            have hlt : bi.rb < w.heap.size := (Array.getElem?_eq_some_iff.1 r1).1
                            have hcell : w.cell? ⟨bi.rb, 0, none⟩ = some (.map (some mi.rb)) := by
                              rw [rd] at z2
                              simp [World.cell?, r1]; simpa using z2
                            have hkk := m3.keys hkeys
                            have hbb := m3.borns
                            have hlen : arr.size = es.length := by have := m3.length; simpa using this
                            have hl63 := lim63_eq
                            have hml : maxLen = 9223372036854775807 := by decide
                            have hread : ∀ x ∈ arr.toList, ∃ k, k ∈ ks ∧ x.key = .string ⟨⟨k⟩⟩ ∧ keyOf P kt x.key = some (.string k) := fun x hx => by
                              have : x.key ∈ arr.toList.map (·.key) := List.mem_map_of_mem hx
                              rw [hkk] at this
                              obtain ⟨k, hk1, hk2⟩ := List.mem_map.1 this
                              refine ⟨k, hk1, hk2.symm, ?_⟩
                              rw [← hk2, keyOf_string_mk hk (by have := ky1 k hk1; rw [size_len]; simp only; omega)]
                            have hrd : ∀ x ∈ arr.toList, ∀ k, x.key = .string ⟨⟨k⟩⟩ → WideElems.rg P kt (fun _ => some ((.nil : DataW Unit), [])) x = (.string k, .nil) := fun x hx k hxk => by
                              obtain ⟨k', _, e1, e2⟩ := hread x hx
                              rw [hxk] at e1
                              have : k = k' := by cases e1; rfl
                              subst this
                              simp [WideElems.rg, WideElems.rd, e2]
                            have hfit : WideElems.Fit P kt (fun _ => some ((.nil : DataW Unit), [])) arr cl := by
                              refine ⟨by rw [hlen, hml]; have : Nat.mul es.length 16 = es.length * 16 := rfl; omega, ⟨fun x hx => ?_, ?_, ?_⟩, fun x hx => ?_⟩
                              · have : x.born ∈ arr.toList.map (·.born) := List.mem_map_of_mem hx
                                rw [hbb] at this
                                obtain ⟨e0, he0, he1⟩ := List.mem_map.1 this
                                rw [← he1]; exact st1 e0 he0
                              · rw [hbb]; exact st2
                              · rw [hkk]
                                exact List.pairwise_map.2 (ky2.imp fun hne he => hne (by cases he; rfl))
                              · obtain ⟨k', _, e1, e2⟩ := hread x hx
                                exact ⟨(.string k', .nil), by simp [WideElems.rd, e2]⟩
                            have hsize : Maps.size (.map ((arr.toList.map (rg P kt (fun _ => some ((.nil : DataW Unit), [])))).foldr DataW.insert [])) = es.length := by
                              show ((arr.toList.map (rg P kt (fun _ => some ((.nil : DataW Unit), [])))).foldr DataW.insert []).length = _
                              rw [length_sorted]; simp [hlen]
                            have hks2 : (arr.toList.map (rg P kt (fun _ => some ((.nil : DataW Unit), [])))).map (fun p => strOf p.1) = ks := by
                              rw [List.map_map]
                              have : ∀ (l : List MapEntry) (ks' : List (List UInt8)), (∀ x ∈ l, x ∈ arr.toList) → l.map (·.key) = ks'.map (fun k => Value.string ⟨⟨k⟩⟩) → l.map ((fun p => strOf p.1) ∘ rg P kt (fun _ => some ((.nil : DataW Unit), []))) = ks' := by
                                intro l
                                induction l with
                                | nil => intro ks' _ h; cases ks' <;> simp at h ⊢
                                | cons x l ih =>
                                  intro ks' hin h
                                  cases ks' with
                                  | nil => simp at h
                                  | cons k ks' =>
                                    simp only [List.map_cons, List.cons.injEq] at h ⊢
                                    refine ⟨?_, ih ks' (fun y hy => hin y (List.mem_cons_of_mem _ hy)) h.2⟩
                                    simp only [Function.comp, hrd x (hin x List.mem_cons_self) k h.1]
                                    rfl
                              exact this _ _ (fun x hx => hx) hkk
                            have hperm2 : (strKeys (.map ((arr.toList.map (rg P kt (fun _ => some ((.nil : DataW Unit), [])))).foldr DataW.insert []))).Perm ks := by
                              show (((arr.toList.map (rg P kt (fun _ => some ((.nil : DataW Unit), [])))).foldr DataW.insert []).map fun p => strOf p.1).Perm ks
                              rw [← hks2]
                              exact (sorted_perm _).map _
                            have hcall := H bi.rb mi.rb arr.size _ _ w hlt hcell ⟨arr, cl, m1, hfit, Nat.le_refl _, rfl⟩ (by rw [hsize, hml]; have : Nat.mul es.length 16 = es.length * 16 := rfl; omega) (by rw [hsize]; exact Nat.le_of_lt k3)
                            have hd0 : bi.d + 0 = 0 := by omega
                            rw [hd0]
                            refine Calls.mono hcall ?_
                            rintro e' w' ⟨v', ss, rfl, hS, hrow, hnil, hbel⟩
                            refine ⟨v', rfl, ?_⟩
                            have hSk : ss.Perm ks := hS.trans hperm2
                            have hlk := (sortL_perm ks).length_eq
                            have hls := hSk.length_eq
                            rw [sortL_merge hSk] at hrow
                            split at e
                            · rename_i hsl
                              cases e
                              rw [hsl] at hlk
                              have hss : ss = [] := List.length_eq_zero_iff.1 (by rw [hls, ← hlk]; rfl)
                              rw [hnil.2 hss]
                              exact ⟨μ, .nils, R.later hbel, Ext.refl _ _, Nat.le_refl _⟩
                            · rename_i hsl
                              cases e
                              obtain ⟨o1, ⟨o2, o3⟩ | ⟨gg, cap, cur, o2, o3, o4, o5, o6, o7, o8⟩⟩ := hrow
                              · exact absurd (List.length_eq_zero_iff.1 (by rw [hlk, ← hls]; exact o3)) hsl
                              · subst o2
                                have hfr : μ h.n = none := R.fresh (Nat.le_refl _)
                                have hN := R.below.size
                                refine ⟨μ.set h.n ⟨gg, 0, (sortL ks).length, 1, cap - (sortL ks).length⟩, ?_, R.found hbel (by simpa using o3) ?_, Mu.ext_set hfr (Nat.le_refl _), Nat.le_succ _⟩
                                · have := VR.slice (μ := μ.set h.n ⟨gg, 0, (sortL ks).length, 1, cap - (sortL ks).length⟩) 0 (sortL ks).length (sortL ks).length (cap - (sortL ks).length) ⟨gg, 0, none⟩ (Mu.set_eq _ _ _) (Nat.le_refl _) (.inr ⟨Nat.le_refl _, by simp⟩) (.inl rfl)
                                  rw [show (sortL ks).length + (cap - (sortL ks).length) = cap by omega] at this
                                  rw [hls, ← hlk]
                                  exact this
                                · refine ⟨cur, kt, (0, 0), o4, rfl, rfl, fun h => by simp at h, by simp only; omega, fun j hj => ?_, fun j hj => ?_, fun h => by simp at h, fun _ => ⟨by simp only; omega, fun j _ => by simp⟩⟩
                                  · rw [Tr.get_ofL, List.getElem?_eq_none]; simpa using hj
                                  · have hj' : j < (sortL ks).length := hj
                                    refine ⟨.string ⟨⟨(sortL ks)[j]⟩⟩, .string ⟨⟨(sortL ks)[j]⟩⟩, ?_, ?_, .string _, rfl⟩
                                    · rw [Tr.get_ofL, List.getElem?_map, List.getElem?_eq_getElem hj']; rfl
                                    · have h8 : (cur.toList.take (ss.length * 1))[j]? = ((sortL ks).map encStr)[j]? := by rw [o8]
                                      rw [List.getElem?_take, if_pos (by omega), List.getElem?_map, List.getElem?_eq_getElem hj'] at h8
                                      rw [Nat.zero_add]
                                      simpa [encStr] using h8
              · cases e
            · cases e
          · cases hld
        · cases hld
      · cases e
    · cases e
  · cases e

end Go.EvM
