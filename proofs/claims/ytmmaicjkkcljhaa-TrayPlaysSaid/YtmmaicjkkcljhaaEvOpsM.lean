/- OpsM: maps. -/
import Derived.Test.YtmmaicjkkcljhaaEvOps9
import Derived.MapKept
namespace Go.EvM
set_option linter.unusedSectionVars false
variable [GLs]
open Go.RowKit
set_option linter.unusedVariables false
variable {P : Program} {cx : Cx} {o : Oper}

theorem bytes_beq (x y : ByteArray) : (x == y) = (x.data.toList == y.data.toList) := by
  show (x.data == y.data) = _
  rw [Bool.eq_iff_iff]; simp

theorem get_map {P : Program} {w : World} {r : Nat} {es : Array MapEntry} {clock : Nat} (hb : w.heap[r]? = some (.map es clock)) : (getObj r).run P w = .ok (.map es clock) w := by simp [getObj, Sem.run, hb]
theorem set_map {P : Program} {w : World} {r : Nat} {es : Array MapEntry} {clock : Nat} (o : Obj) (hb : w.heap[r]? = some (.map es clock)) : (setObj r o).run P w = .ok () { w with heap := w.heap.setIfInBounds r o } := by simp [setObj, Sem.run, hb]

theorem kSh_eq {μ : Mu} {a a' : Value} {s : KS} (h : VR μ a a') (hs : kSh a = some s) : a' = a := by
  cases h <;> first | rfl | cases hs

theorem bytes_eq {x y : ByteArray} : (x.data.toList == y.data.toList) = true ↔ x = y := by
  constructor
  · intro h
    obtain ⟨⟨x⟩⟩ := x; obtain ⟨⟨y⟩⟩ := y
    simp at h; subst h; rfl
  · rintro rfl; simp

theorem sameE_facts {d : TypeDesc} {k a : Value} {b : Bool} (h : sameE d k a = some b) : okKey d k = true ∧ (∃ s, kSh k = some s ∧ kSh a = some s) ∧ (b = true ↔ k = a) := by
  unfold sameE at h
  split at h
  · split at h
    · split at h
      · rename_i hd
        have hd := of_decide_eq_true hd
        subst hd
        cases h
        refine ⟨rfl, ⟨_, rfl, rfl⟩, ?_⟩
        simp [eqI_eq]
      · cases h
    · cases h
  · split at h
    · cases h
      refine ⟨rfl, ⟨_, rfl, rfl⟩, ?_⟩
      rw [eqL_eq, bytes_eq]; simp
    · cases h
  · split at h
    · cases h
      rename_i x y
      refine ⟨rfl, ⟨_, rfl, rfl⟩, ?_⟩
      cases x <;> cases y <;> simp
    · cases h
  · cases h

theorem sameNow_of {d : TypeDesc} {k a : Value} {s : KS} (h1 : okKey d k = true) (hk : kSh k = some s) (ha : kSh a = some s) : ∃ b, Instr.sameNow d k a = some b ∧ (b = true ↔ k = a) := by
  unfold okKey at h1
  split at h1 <;> (first | (cases h1; done) | (split at h1 <;> first | (cases h1; done) | skip)) <;> (cases hk; cases a <;> first | (cases ha; done) | skip)
  · simp only [kSh, Option.some.injEq, KS.kI.injEq] at ha
    subst ha
    exact ⟨_, by simp only [Instr.sameNow, if_true]; rfl, by simp⟩
  · exact ⟨_, rfl, by rw [bytes_beq, bytes_eq]; simp⟩
  · exact ⟨_, rfl, by simp⟩

theorem findE_facts {d : TypeDesc} {k : Value} : ∀ {es : List (Value × Value)} {i : Nat} {res : Option (Nat × Value)}, findE d k es i = some res →
    (∀ e l, es = e :: l → okKey d k = true ∧ ∃ s, kSh k = some s ∧ kSh e.1 = some s) ∧
    ((res = none ∧ ∀ e ∈ es, e.1 ≠ k) ∨ ∃ j v, res = some (j, v) ∧ i ≤ j ∧ es[j - i]? = some (k, v))
  | [], i, res, h => by cases h; exact ⟨fun e l h => (by cases h), .inl ⟨rfl, fun e h => (by simp at h)⟩⟩
  | e :: es, i, res, h => by
    have h : (match sameE d k e.1 with | some b => (match b with | true => some (some (i, e.2)) | false => findE d k es (Nat.succ i)) | none => none) = some res := h
    split at h
    · rename_i b hs
      obtain ⟨f1, f2, f3⟩ := sameE_facts hs
      refine ⟨fun e' l he => by cases he; exact ⟨f1, f2⟩, ?_⟩
      cases b with
      | true =>
        cases h
        have := f3.1 rfl
        exact .inr ⟨i, e.2, rfl, Nat.le_refl _, by rw [Nat.sub_self, this]; rfl⟩
      | false =>
        have hne : e.1 ≠ k := fun he => by have := f3.2 he.symm; cases this
        rcases (findE_facts h).2 with ⟨g1, g2⟩ | ⟨j, v, g1, g2, g3⟩
        · exact .inl ⟨g1, fun x hx => (List.mem_cons.1 hx).elim (fun q => by rw [q]; exact hne) (fun q => g2 x q)⟩
        · refine .inr ⟨j, v, g1, by omega, ?_⟩
          rw [show j - i = j - (i + 1) + 1 by omega]; simpa using g3
    · cases h

theorem findNow_facts {d : TypeDesc} {k : Value} {s : KS} (hok : okKey d k = true) (hk : kSh k = some s) : ∀ (r : List MapEntry) (i : Nat), (∀ e ∈ r, kSh e.key = some s) →
    (Instr.findNow d k r i = some none ∧ ∀ e ∈ r, e.key ≠ k) ∨ ∃ j e, Instr.findNow d k r i = some (some (j, e.val)) ∧ i ≤ j ∧ r[j - i]? = some e ∧ e.key = k
  | [], i, _ => .inl ⟨rfl, fun e h => by simp at h⟩
  | e :: r, i, h => by
    obtain ⟨b, h1, h2⟩ := sameNow_of hok hk (h e List.mem_cons_self)
    cases b with
    | true => exact .inr ⟨i, e, by simp only [Instr.findNow, h1], Nat.le_refl _, by simp, (h2.1 rfl).symm⟩
    | false =>
      have hne : e.key ≠ k := fun he => by have := h2.2 he.symm; cases this
      rcases findNow_facts hok hk r (i + 1) (fun x hx => h x (List.mem_cons_of_mem _ hx)) with ⟨g1, g2⟩ | ⟨j, x, g1, g2, g3, g4⟩
      · exact .inl ⟨by simp only [Instr.findNow, h1]; exact g1, fun x hx => (List.mem_cons.1 hx).elim (fun q => by rw [q]; exact hne) (fun q => g2 x q)⟩
      · refine .inr ⟨j, x, by simp only [Instr.findNow, h1]; exact g1, by omega, ?_, g4⟩
        rw [show j - i = j - (i + 1) + 1 by omega]; simpa using g3

theorem EntR.length {μ : Mu} : ∀ {es : List (Value × Value)} {r : List MapEntry}, EntR μ es r → r.length = es.length
  | [], [], _ => rfl
  | (_, _) :: _, _ :: _, ⟨_, _, h⟩ => by simp [EntR.length h]
  | [], _ :: _, h => h.elim
  | _ :: _, [], h => h.elim
theorem EntR.get {μ : Mu} : ∀ {es : List (Value × Value)} {r : List MapEntry}, EntR μ es r → ∀ {j : Nat} {k v : Value}, es[j]? = some (k, v) → ∃ e, r[j]? = some e ∧ VR μ k e.key ∧ VR μ v e.val
  | [], [], _, j, k, v, h => by simp at h
  | (a, b) :: es, e :: r, ⟨h1, h2, _⟩, 0, k, v, h => by simp at h; obtain ⟨rfl, rfl⟩ := h; exact ⟨e, rfl, h1, h2⟩
  | (a, b) :: es, e :: r, ⟨_, _, h4⟩, j + 1, k, v, h => by simpa using EntR.get h4 (j := j) (by simpa using h)
  | [], _ :: _, h, _, _, _, _ => h.elim
  | _ :: _, [], h, _, _, _, _ => h.elim
theorem EntR.keys {μ : Mu} : ∀ {es : List (Value × Value)} {r : List MapEntry}, EntR μ es r → (∀ e ∈ es, ∃ s, kSh e.1 = some s) → r.map (·.key) = es.map (·.1)
  | [], [], _, _ => rfl
  | (a, b) :: es, e :: r, ⟨h1, _, h4⟩, h => by
    obtain ⟨s, hs⟩ := h (a, b) List.mem_cons_self
    simp only [List.map_cons, kSh_eq h1 hs, EntR.keys h4 fun x hx => h x (List.mem_cons_of_mem _ hx)]
  | [], _ :: _, h, _ => h.elim
  | _ :: _, [], h, _ => h.elim
theorem EntR.append {μ : Mu} : ∀ {es es2 : List (Value × Value)} {r r2 : List MapEntry}, EntR μ es r → EntR μ es2 r2 → EntR μ (es ++ es2) (r ++ r2)
  | [], _, [], _, _, h => h
  | (_, _) :: _, _, _ :: _, _, ⟨h1, h2, h4⟩, h => ⟨h1, h2, EntR.append h4 h⟩
  | [], _, _ :: _, _, h, _ => h.elim
  | _ :: _, _, [], _, h, _ => h.elim
theorem modE_ok {μ : Mu} {k k' x x' : Value} (hk : VR μ k k') (hx : VR μ x x') : ∀ {es : List (Value × Value)} {r : List MapEntry} (i : Nat), EntR μ es r → EntR μ (modE k x es i) (r.modify i fun e => { e with key := k', val := x' })
  | [], [], i, _ => by cases i <;> trivial
  | (a, v) :: es, y :: r, 0, ⟨h1, h2, h4⟩ => ⟨hk, hx, h4⟩
  | (a, v) :: es, y :: r, i + 1, ⟨h1, h2, h4⟩ => ⟨h1, h2, modE_ok hk hx i h4⟩
  | [], _ :: _, _, h => h.elim
  | _ :: _, [], _, h => h.elim
theorem modE_keys {k x v : Value} : ∀ {es : List (Value × Value)} {i : Nat}, es[i]? = some (k, v) → (modE k x es i).map (·.1) = es.map (·.1)
  | [], i, h => by simp at h
  | (a, b) :: es, 0, h => by simp at h; obtain ⟨rfl, rfl⟩ := h; rfl
  | (a, b) :: es, i + 1, h => by simp only [modE, List.map_cons]; rw [modE_keys (by simpa using h)]

theorem MapR.rkeys {μ : Mu} {es : List (Value × Value)} {r : Array MapEntry} {cl : Nat} (h : MapR μ es r cl) : (r.toList.map (·.key)).Perm (es.map (·.1)) := by
  obtain ⟨l, h1, h2⟩ := h.ent
  obtain ⟨s, hs⟩ := h.shape
  rw [← h2.keys fun e he => ⟨s, hs e he⟩]
  exact (h1.map _).symm
theorem MapR.length {μ : Mu} {es : List (Value × Value)} {r : Array MapEntry} {cl : Nat} (h : MapR μ es r cl) : r.size = es.length := by
  have := h.rkeys.length_eq; simpa using this
theorem key_once {l : List MapEntry} (hn : (l.map (·.key)).Nodup) : ∀ {a b : MapEntry}, a ∈ l → b ∈ l → a.key = b.key → a = b := by
  induction l with
  | nil => intro a b h; simp at h
  | cons x l ih =>
    rw [List.map_cons, List.nodup_cons] at hn
    intro a b ha hb e
    rcases List.mem_cons.1 ha with qa | qa <;> rcases List.mem_cons.1 hb with qb | qb
    · rw [qa, qb]
    · exact absurd (by rw [← qa, e]; exact List.mem_map_of_mem qb) hn.1
    · exact absurd (by rw [← qb, ← e]; exact List.mem_map_of_mem qa) hn.1
    · exact ih hn.2 qa qb e

theorem find_ok {μ : Mu} {d : TypeDesc} {es : List (Value × Value)} {r : Array MapEntry} {cl : Nat} {k k' : Value} {res : Option (Nat × Value)} (h : MapR μ es r cl) (hk : VR μ k k') (e : findE d k es 0 = some res) :
    (res = none ∧ Instr.findNow d k' r.toList 0 = some none ∧ ∀ x ∈ es, x.1 ≠ k) ∨
    ∃ j v i y l, res = some (j, v) ∧ Instr.findNow d k' r.toList 0 = some (some (i, y.val)) ∧ r[i]? = some y ∧ y.key = k' ∧ k' = k ∧ VR μ v y.val ∧ es[j]? = some (k, v) ∧ l.Perm r.toList ∧ EntR μ es l ∧ l[j]? = some y ∧ okKey d k = true := by
  obtain ⟨f1, f2⟩ := findE_facts e
  cases es with
  | nil =>
    have hl := h.length
    have hr : r.toList = [] := List.length_eq_zero_iff.1 (by simpa using hl)
    rcases f2 with ⟨g1, g2⟩ | ⟨j, v, _, _, g3⟩
    · exact .inl ⟨g1, by rw [hr]; rfl, g2⟩
    · simp at g3
  | cons e0 l0 =>
    obtain ⟨hok, s, hks, hes⟩ := f1 e0 l0 rfl
    have hkk := kSh_eq hk hks
    subst hkk
    obtain ⟨s', hs'⟩ := h.shape
    have : s' = s := by have := hs' e0 List.mem_cons_self; rw [hes] at this; exact (Option.some.inj this).symm
    subst this
    have hrk := h.rkeys
    have hrs : ∀ x ∈ r.toList, kSh x.key = some s' := fun x hx => by
      have := hrk.mem_iff.1 (List.mem_map_of_mem hx)
      obtain ⟨y, hy, he⟩ := List.mem_map.1 this
      rw [← he]; exact hs' y hy
    obtain ⟨l, hl1, hl2⟩ := h.ent
    rcases findNow_facts hok hks r.toList 0 hrs with ⟨n1, n2⟩ | ⟨i, y, n1, n2, n3, n4⟩ <;> rcases f2 with ⟨g1, g2⟩ | ⟨j, v, g1, g2, g3⟩
    · exact .inl ⟨g1, n1, g2⟩
    · obtain ⟨x, x1, x2, _⟩ := hl2.get (by simpa using g3)
      exact absurd (kSh_eq x2 hks) (n2 x (hl1.mem_iff.1 (List.mem_of_getElem? x1)))
    · have := hrk.mem_iff.1 (List.mem_map_of_mem (List.mem_of_getElem? n3))
      obtain ⟨z, hz, he⟩ := List.mem_map.1 this
      exact absurd (he.trans n4) (g2 z hz)
    · have g3 : (e0 :: l0)[j]? = some (k', v) := by simpa using g3
      obtain ⟨x, x1, x2, x3⟩ := hl2.get g3
      have hxk : x.key = k' := kSh_eq x2 hks
      have hxr := hl1.mem_iff.1 (List.mem_of_getElem? x1)
      have hnd : (r.toList.map (·.key)).Nodup := hrk.nodup_iff.2 h.keys
      have n3 : r.toList[i]? = some y := by simpa using n3
      have hxy : x = y := key_once hnd hxr (List.mem_of_getElem? n3) (hxk.trans n4.symm)
      subst hxy
      exact .inr ⟨j, v, i, x, l, g1, n1, by simpa using n3, n4, rfl, x3, g3, hl1, hl2, x1, hok⟩

theorem perm_modify {α : Type} (f : α → α) {l r : List α} {i j : Nat} {y : α} (h : l.Perm r) (hj : l[j]? = some y) (hi : r[i]? = some y) : (l.modify j f).Perm (r.modify i f) := by
  obtain ⟨lj, ej⟩ := List.getElem?_eq_some_iff.1 hj
  obtain ⟨li, ei⟩ := List.getElem?_eq_some_iff.1 hi
  rw [List.modify_eq_take_cons_drop lj, List.modify_eq_take_cons_drop li, ej, ei]
  have h1 : l = l.take j ++ y :: l.drop (j + 1) := by rw [← ej]; simp
  have h2 : r = r.take i ++ y :: r.drop (i + 1) := by rw [← ei]; simp
  have h3 : (y :: (l.take j ++ l.drop (j + 1))).Perm (y :: (r.take i ++ r.drop (i + 1))) := by
    refine List.perm_middle.symm.trans (List.Perm.trans ?_ List.perm_middle)
    rw [← h1, ← h2]; exact h
  exact List.perm_middle.trans (((List.perm_cons _).2 ((List.perm_cons _).1 h3)).trans List.perm_middle.symm)

theorem map_modify_same {α β : Type} {f : α → α} {g : α → β} (h : ∀ x, g (f x) = g x) : ∀ (l : List α) (i : Nat), (l.modify i f).map g = l.map g
  | [], i => by cases i <;> rfl
  | x :: l, 0 => by simp [List.modify, h]
  | x :: l, i + 1 => by simpa using map_modify_same h l i

theorem same_bits {v : Value} {s : KS} (h : kSh v = some s) (n : Nat) : Instr.sameBits n v v = true := by
  cases v <;> first | (cases h; done) | (cases n <;> simp [Instr.sameBits, bytes_beq])

structure MapOk (P : Program) (cx : Cx) (t : TypeId) (d : TypeDesc) (ei : TI) : Prop where
  ex : ∃ i kt et ki, cx.ti t = some i ∧ i.desc = .map kt et ∧ cx.ti kt = some ki ∧ cx.ti et = some ei ∧ ki.desc = d ∧ keyD d = true

theorem mapOf_ok {t : TypeId} {d : TypeDesc} {ei : TI} (e : mapOf cx t = some (d, ei)) : MapOk P cx t d ei := by
  unfold mapOf at e
  split at e
  · rename_i i hi
    split at e
    · rename_i kt et hd
      split at e
      · rename_i ki ei' hk he
        split at e
        · rename_i hkd
          cases e
          exact ⟨i, kt, et, ki, hi, hd, hk, he, rfl, hkd⟩
        · cases e
      · cases e
    · cases e
  · cases e

theorem run_checkKey (C : CxOk P cx) {kt : TypeId} {ki : TI} (hk : cx.ti kt = some ki) (hd : keyD ki.desc = true) (b : Bool) (v : Value) (w : World) : (Instr.checkKey b 10000 kt v).run P w = .ok () w := by
  rw [show (10000 : Nat) = 9999 + 1 from rfl]
  unfold Instr.checkKey
  simp only [Sem.run_bind, C.run_und hk, Result.andThen_ok]
  cases hdd : ki.desc <;> rw [hdd] at hd <;> first | (cases hd; done) | simp

theorem run_findKey (C : CxOk P cx) {kt : TypeId} {ki : TI} (hk : cx.ti kt = some ki) {k' : Value} {r : List MapEntry} {res : Option (Nat × Value)} (h : Instr.findNow ki.desc k' r 0 = some res) (w : World) : (Instr.findKey kt k' r).run P w = .ok res w := by
  unfold Instr.findKey
  simp only [Sem.run_bind, C.run_und hk, Result.andThen_ok, h, Sem.run_pure]

theorem CxOk.zv_ok (C : CxOk P cx) {t : TypeId} {i : TI} (h : cx.ti t = some i) (w : World) (μ : Mu) : (zeroValue t).run P w = .ok i.zv w ∧ VR μ i.zv i.zv := by
  obtain ⟨f, h1, h2, h3⟩ := C.zv t i h
  exact ⟨by simp [zeroValue, typeInfo, h1, h2], plain_VR μ 5 _ h3⟩

theorem okV_VR {μ : Mu} {v v' : Value} (h : VR μ v v') (ok b : Bool) : VR μ (okV ok v b) (if ok then .tuple #[v', .bool b] else v') := by
  cases ok with
  | true => exact .tuple (.cons h (.cons (.bool b) .nil))
  | false => exact h

/-- What a map's entries are. -/
theorem mapEs_ok {W : World} {μ : Mu} {h : Hp} {w : World} (R : Rel W μ h w) {x x' : Value} (hx : VR μ x x') {es : List (Value × Value)} (e : mapEs h x = some es) :
    (x' = .map none ∧ es = []) ∨ ∃ r arr cl, x' = .map (some r) ∧ w.heap[r]? = some (.map arr cl) ∧ MapR μ es arr cl := by
  unfold mapEs at e
  split at e
  · rename_i r
    cases r with
    | none => cases hx; cases e; exact .inl ⟨rfl, rfl⟩
    | some b =>
      dsimp only at e
      split at e
      · rename_i es' hb
        cases e
        cases hx with
        | map hm =>
          obtain ⟨arr, cl, h1, h2, h3⟩ := R.ob b _ _ hm hb
          exact .inr ⟨_, arr, cl, rfl, h1, h3⟩
      · cases e
  · cases e

theorem ok_lookup (C : CxOk P cx) {t : TypeId} {x k : Operand} {ok : Bool} {d : TypeDesc} {ei : TI} (hm : mapOf cx t = some (d, ei)) (ho : o.op = .lookup t x k ok) :
    LookOk P o fun ρ h => match mapEs h (ρ x) with
      | some es => (match findE d (ρ k) es 0 with
        | some r => (match r with
          | some p => some (okV ok p.2 true)
          | none => some (okV ok ei.zv false))
        | none => none)
      | none => none := by
  intro W μ ρ ρ' h w v hop R e
  have hx := mem_ops hop ho (x := x) (by simp [Op.operands])
  have hk := mem_ops hop ho (x := k) (by simp [Op.operands])
  obtain ⟨⟨i, kt, et, ki, h1, h2, h3, h4, rfl, h6⟩⟩ := mapOf_ok (P := P) hm
  dsimp only at e
  have hu := C.run_und h1
  rw [h2] at hu
  obtain ⟨z1, z2⟩ := C.zv_ok h4 w μ
  split at e
  · rename_i es hes
    split at e
    · rename_i r hf
      have key : ∃ (arr : Array MapEntry) (cl : Nat), MapR μ es arr cl ∧ (Instr.lookup t (ρ' x) (ρ' k) ok).run P w =
          ((do Instr.checkKey arr.isEmpty 10000 kt (ρ' k)
               let (v, ok') ← match ← Instr.findKey kt (ρ' k) arr.toList with
                 | some (_, v) => pure (v, true)
                 | none => pure (← zeroValue et, false)
               pure (if ok then .tuple #[v, .bool ok'] else v) : Sem Value).run P w) := by
        rcases mapEs_ok R hx hes with ⟨g1, rfl⟩ | ⟨rr, arr, cl, g1, g2, g3⟩
        · refine ⟨#[], 0, ⟨⟨[], by simp, trivial⟩, fun x h => by simp at h, by simp, by simp, ⟨.kS, fun e h => by simp at h⟩⟩, ?_⟩
          unfold Instr.lookup
          simp only [Sem.run_bind, hu, Result.andThen_ok, g1, Sem.run_pure]
          rfl
        · refine ⟨arr, cl, g3, ?_⟩
          unfold Instr.lookup
          simp only [Sem.run_bind, hu, Result.andThen_ok, g1, get_map g2, Sem.run_pure]
          rfl
      obtain ⟨arr, cl, ha, hrun⟩ := key
      simp only [execOp, ho]
      simp only [Sem.run_bind, hrun, run_checkKey C h3 h6, Result.andThen_ok]
      rcases find_ok ha hk hf with ⟨rfl, g2, _⟩ | ⟨j, v1, i1, y, l, rfl, g2, _, _, _, g3, _⟩
      · cases e
        simp only [run_findKey C h3 g2, Result.andThen_ok, Sem.run_bind, z1, Sem.run_pure]
        exact ⟨_, rfl, okV_VR z2 ok false⟩
      · cases e
        simp only [run_findKey C h3 g2, Result.andThen_ok, Sem.run_bind, Sem.run_pure]
        exact ⟨_, rfl, okV_VR g3 ok true⟩
    · cases e
  · cases e

theorem ok_lenM (C : CxOk P cx) {t : TypeId} {x : Operand} {i : TI} {kt et : TypeId} (ht : cx.ti t = some i) (hd : i.desc = .map kt et) (ho : o.op = .call { callee := .builtin .len, args := #[x], argTypes := #[t] }) :
    LookOk P o fun ρ h => (match mapEs h (ρ x) with | some es => some (.int .i64 (.ofNat es.length)) | none => none) := by
  intro W μ ρ ρ' h w v hop R e
  have hx := mem_ops hop ho (x := x) (by simp [Op.operands, Call.operands])
  have hu := C.run_und ht w
  dsimp only at e
  split at e
  · rename_i es hes
    cases e
    rcases mapEs_ok R hx hes with ⟨g1, rfl⟩ | ⟨rr, arr, cl, g1, g2, g3⟩
    · refine ⟨_, ?_, .int _ _⟩
      simp [execOp, ho, g1, resolve, invoke, builtin, Builtin.len_, hu, hd, goInt]
    · refine ⟨_, ?_, .int _ _⟩
      have hl := g3.length
      simp [execOp, ho, g1, resolve, invoke, builtin, Builtin.len_, hu, hd, goInt, get_map g2, hl]
  · cases e

theorem Rel.putMap {W : World} {μ : Mu} {h : Hp} {w : World} (R : Rel W μ h w) {b : Nat} {i : BI} {es es' : List (Value × Value)} {cl' : Nat} {r' : Array MapEntry} (hb : μ b = some i) (ho : h.b.get b = some (.map es)) (hr : MapR μ es' r' cl') :
    Rel W μ ⟨h.n, h.b.put b (.map es')⟩ { w with heap := w.heap.setIfInBounds i.rb (.map r' cl') } := by
  obtain ⟨r, cl, r1, r2, r3⟩ := R.ob b i _ hb ho
  have hlt : i.rb < w.heap.size := (Array.getElem?_eq_some_iff.1 r1).1
  have hother : ∀ k, k ≠ i.rb → (w.heap.setIfInBounds i.rb (.map r' cl'))[k]? = w.heap[k]? := fun k hk => Array.getElem?_setIfInBounds_ne (Ne.symm hk)
  refine ⟨R.gl, R.dom, ?_, ?_, ⟨R.below.os, R.below.tape, R.below.output, by simpa using R.below.size, fun k hk => (hother k (by omega)).trans (R.below.block k hk)⟩⟩
  · intro b2 i2 o2 hb2 ho2
    simp only [Tr.get_put] at ho2
    by_cases e2 : b2 = b
    · subst e2
      rw [hb] at hb2; cases hb2
      simp at ho2; subst ho2
      exact ⟨r', cl', by simp [hlt], r2, hr⟩
    · simp [e2] at ho2
      refine (R.ob b2 i2 o2 hb2 ho2).move (Le.refl _) (hother _ ?_)
      intro hrb
      cases o2 with
      | cells c2 n2 z2 ti2 ro2 =>
        cases ro2 with
        | false => exact e2 (R.inj b2 b i2 i _ _ hb2 hb ho2 ho rfl trivial hrb)
        | true =>
          obtain ⟨_, _, _, _, _, _, _, _, _, _, k1, _⟩ := R.ob b2 i2 _ hb2 ho2
          have := k1 rfl
          omega
      | map es => exact e2 (R.inj b2 b i2 i _ _ hb2 hb ho2 ho trivial trivial hrb)
      | mark => exact e2 (R.inj b2 b i2 i _ _ hb2 hb ho2 ho trivial trivial hrb)
      | lock _ _ => exact e2 (R.inj b2 b i2 i _ _ hb2 hb ho2 ho trivial trivial hrb)
      | chan _ _ => exact e2 (R.inj b2 b i2 i _ _ hb2 hb ho2 ho trivial trivial hrb)
  · intro b1 b2 i1 i2 o1 o2 hb1 hb2 ho1 ho2 w1 w2 hrb
    have fix : ∀ {x : Nat} {o : Ob}, ((h.b.put b (.map es')).get x = some o) → o.wr → ∃ p, h.b.get x = some p ∧ p.wr := by
      intro x o hx hw
      rw [Tr.get_put] at hx
      by_cases hxb : x = b
      · subst hxb; exact ⟨_, ho, trivial⟩
      · rw [if_neg hxb] at hx; exact ⟨o, hx, hw⟩
    obtain ⟨p1, k1, l1⟩ := fix ho1 w1
    obtain ⟨p2, k2, l2⟩ := fix ho2 w2
    exact R.inj b1 b2 i1 i2 p1 p2 hb1 hb2 k1 k2 l1 l2 hrb

theorem ok_mapUpdate (C : CxOk P cx) {t : TypeId} {m k x : Operand} {d : TypeDesc} {ei : TI} (hm : mapOf cx t = some (d, ei)) (ho : o.op = .mapUpdate t m k x) :
    EffOk P o fun ρ h => match ρ m with
      | .map (some b) => (match h.b.get b with
        | some (.map es) => (match okKey d (ρ k), findE d (ρ k) es 0 with
          | true, some r => (match r with
            | some p => .ok undef ⟨h.n, h.b.put b (.map (modE (ρ k) (ρ x) es p.1))⟩
            | none => .ok undef ⟨h.n, h.b.put b (.map (es ++ [(ρ k, ρ x)]))⟩)
          | _, _ => .no)
        | _ => .no)
      | _ => .no := by
  intro W μ ρ ρ' h w v h' hop R e
  have hmm := mem_ops hop ho (x := m) (by simp [Op.operands])
  have hk := mem_ops hop ho (x := k) (by simp [Op.operands])
  have hx := mem_ops hop ho (x := x) (by simp [Op.operands])
  obtain ⟨⟨i, kt, et, ki, h1, h2, h3, h4, rfl, h6⟩⟩ := mapOf_ok (P := P) hm
  have hu := C.run_und h1
  rw [h2] at hu
  dsimp only at e
  split at e
  · rename_i b hmb
    split at e
    · rename_i es hb
      split at e
      · rename_i r hokk hf
        rw [hmb] at hmm
        generalize hr : ρ' m = m' at hmm
        cases hmm with
        | map hμ =>
          rename_i bi
          obtain ⟨arr, cl, r1, r2, r3⟩ := R.ob b bi _ hμ hb
          have hset := fun ob => set_map (P := P) ob r1
          obtain ⟨s, hks⟩ : ∃ s, kSh (ρ k) = some s := by
            unfold okKey at hokk
            split at hokk <;> (first | (cases hokk; done) | (split at hokk <;> first | (cases hokk; done) | skip))
            · rename_i hq; rw [hq]; exact ⟨_, rfl⟩
            · rename_i hq; rw [hq]; exact ⟨_, rfl⟩
            · rename_i hq; rw [hq]; exact ⟨_, rfl⟩
          have hkk := kSh_eq hk hks
          simp only [execOp, ho, hr, Instr.mapUpdate]
          rcases find_ok r3 hk hf with ⟨rfl, g2, g3⟩ | ⟨j, v1, i1, y, l, rfl, g2, g3, g4, g5, g6, g7, g8, g9, g10, g11⟩
          · cases e
            refine ⟨.skip, undef, _, μ, ?_, rfl, undefR μ, R.putMap hμ hb (es' := es ++ [(ρ k, ρ x)]) (cl' := cl + 1) (r' := arr.push { key := ρ' k, val := ρ' x, born := cl }) ?_, Ext.refl _ _, Nat.le_refl _⟩
            · simp only [Sem.run_bind, hu, Result.andThen_ok, get_map r1, run_checkKey C h3 h6, run_findKey C h3 g2, hset, Sem.run_pure]
            · obtain ⟨l, l1, l2⟩ := r3.ent
              refine ⟨⟨l ++ [{ key := ρ' k, val := ρ' x, born := cl }], by rw [Array.toList_push]; exact l1.append_right _, l2.append ⟨hk, hx, trivial⟩⟩, fun z hz => ?_, ?_, ?_, ?_⟩
              · rw [Array.toList_push] at hz
                rcases List.mem_append.1 hz with hz | hz
                · exact Nat.lt_succ_of_lt (r3.born z hz)
                · simp at hz; subst hz; exact Nat.lt_succ_self _
              · rw [Array.toList_push, List.map_append, List.nodup_append]
                refine ⟨r3.once, by simp, fun a ha b hb => ?_⟩
                obtain ⟨z, hz, rfl⟩ := List.mem_map.1 ha
                simp at hb; subst hb
                exact Nat.ne_of_lt (r3.born z hz)
              · rw [List.map_append, List.nodup_append]
                refine ⟨r3.keys, by simp, fun a ha b hb => ?_⟩
                obtain ⟨z, hz, rfl⟩ := List.mem_map.1 ha
                simp at hb; subst hb
                exact g3 z hz
              · cases es with
                | nil => exact ⟨s, fun z hz => by simp at hz; subst hz; exact hks⟩
                | cons e0 l0 =>
                  obtain ⟨s', hs'⟩ := r3.shape
                  obtain ⟨_, s2, q1, q2⟩ := (findE_facts hf).1 e0 l0 rfl
                  have : s2 = s' := by have := hs' e0 List.mem_cons_self; rw [q2] at this; exact Option.some.inj this
                  subst this
                  refine ⟨s2, fun z hz => ?_⟩
                  rcases List.mem_append.1 hz with hz | hz
                  · exact hs' z hz
                  · simp at hz; subst hz; exact q1
          · cases e
            have hstay : (Instr.keyThatStays (((arr[i1]?).map (·.key)).getD (ρ' k)) (ρ' k)).run P w = .ok (ρ' k) w := by
              unfold Instr.keyThatStays
              rw [g3]
              have : Instr.sameBits 10000 y.key (ρ' k) = true := by rw [g4, hkk]; exact same_bits hks _
              simp [this]
            refine ⟨.skip, undef, _, μ, ?_, rfl, undefR μ, R.putMap hμ hb (es' := modE (ρ k) (ρ x) es j) (cl' := cl) (r' := arr.modify i1 fun e => { e with key := ρ' k, val := ρ' x }) ?_, Ext.refl _ _, Nat.le_refl _⟩
            · simp only [Sem.run_bind, hu, Result.andThen_ok, get_map r1, run_checkKey C h3 h6, run_findKey C h3 g2, hstay, hset, Sem.run_pure]
            · have hmk := modE_keys (x := ρ x) g7
              have hborn : ((arr.modify i1 fun e => { e with key := ρ' k, val := ρ' x }).toList.map (·.born)) = arr.toList.map (·.born) := by
                rw [Array.toList_modify]; exact map_modify_same (f := fun e : MapEntry => { e with key := ρ' k, val := ρ' x }) (g := (·.born)) (fun _ => rfl) _ _
              refine ⟨⟨l.modify j fun e => { e with key := ρ' k, val := ρ' x }, by rw [Array.toList_modify]; exact perm_modify _ g8 g10 (by simpa using g3), modE_ok hk hx j g9⟩, fun z hz => ?_, by rw [hborn]; exact r3.once, by rw [hmk]; exact r3.keys, ?_⟩
              · have : z.born ∈ arr.toList.map (·.born) := by rw [← hborn]; exact List.mem_map_of_mem hz
                obtain ⟨z', hz', he⟩ := List.mem_map.1 this
                rw [← he]; exact r3.born z' hz'
              · obtain ⟨s', hs'⟩ := r3.shape
                refine ⟨s', fun z hz => ?_⟩
                have : z.1 ∈ es.map (·.1) := by rw [← hmk]; exact List.mem_map_of_mem hz
                obtain ⟨z', hz', he⟩ := List.mem_map.1 this
                rw [← he]; exact hs' z' hz'
      · cases e
    · cases e
  · cases e

theorem ok_makeMap {t : TypeId} (ho : o.op = .makeMap t none) : MakeOk P o fun _ => some ⟨.map [], fun b => .map (some b)⟩ := by
  intro W μ ρ ρ' h w m hop R em
  cases em
  refine ⟨.map (some w.heap.size), w.alloc (.map #[] 0), ⟨w.heap.size, 0, 0, 0, 0, default⟩, ?_, rfl, ⟨_, rfl⟩, rfl, rfl, rfl, fun b hb => ⟨.map (Mu.set_eq _ _ _), ⟨#[], 0, heap_new w _, R.below.size, ⟨⟨[], by simp, trivial⟩, fun x h => by simp at h, by simp, by simp, ⟨.kS, fun e h => by simp at h⟩⟩⟩⟩⟩
  simp [execOp, ho, Instr.makeMap]

end Go.EvM
