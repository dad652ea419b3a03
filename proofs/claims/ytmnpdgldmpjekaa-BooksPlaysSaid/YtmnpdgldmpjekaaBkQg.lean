/- BkQ12: the map and the list say the same. -/
import Derived.Test.YtmnpdgldmpjekaaBkQe
import Derived.Test.YtmnpdgldmpjekaaBkP12
import Derived.Test.YtmnpdgldmpjekaaBkQf
namespace Go.Bk
open Go Go.Maps Go.RowKit Go.Proofs
set_option linter.unusedVariables false

theorem tl (x : ByteArray) : x.data.toList = x.toList := (ByteArray.toList_eq x).symm
abbrev K (x : ByteArray) : Lit := .string x.data.toList
theorem isK (x : ByteArray) : WideAt.IsKeyLit (K x) := trivial

/-- The map and the list say the same. -/
structure Inv (D : DataW Unit) (es : List En) : Prop where
  hbal : ∀ x, bal D x = balW es x
  hbnd : ∀ x, -4611686018427387904 ≤ balW es x ∧ balW es x ≤ 4611686018427387904
  htot : tot D % 18446744073709551616 = 0
  hkeys : ∀ x ∈ strKeys D, ∃ e ∈ es, e.db.toList = x ∨ e.cr.toList = x
  hnames : ∀ e ∈ es, okName e.db = true ∧ okName e.cr = true

theorem Inv.empty : Inv (.map []) [] := ⟨fun x => rfl, fun x => by show (-4611686018427387904 : Int) ≤ 0 ∧ (0 : Int) ≤ 4611686018427387904; omega, rfl, fun x hx => by simp [strKeys] at hx, fun e he => by cases he⟩

theorem may_eq {D : DataW Unit} {es : List En} (h : Inv D es) (e : En) : mayR D e.dy e.am e.db e.cr = mayL es e := by
  unfold mayR mayL
  by_cases c : okName e.db = true ∧ okName e.cr = true ∧ (e.db.toList == e.cr.toList) = false ∧ ¬ e.am < 1 ∧ ¬ e.am > 4503599627370496
  · rw [if_pos c, if_pos c]
    by_cases c2 : ¬ e.dy < 0 ∧ ¬ e.dy > 109572
    · rw [if_pos c2, if_pos c2, h.hbal, h.hbal]
      have b1 := h.hbnd e.db
      have b2 := h.hbnd e.cr
      have e1 : wrap64 (balW es e.db + e.am) = balW es e.db + e.am := by unfold wrap64; omega
      have e2 : wrap64 (balW es e.cr - e.am) = balW es e.cr - e.am := by unfold wrap64; omega
      rw [e1, e2]
      have : (4611686018427387904 - e.am < balW es e.db ∨ balW es e.cr < e.am - 4611686018427387904) ↔ (balW es e.db + e.am > 4611686018427387904 ∨ balW es e.cr - e.am < -4611686018427387904) := by omega
      simp only [this]
    · rw [if_neg c2, if_neg c2]
  · rw [if_neg c, if_neg c]

theorem balW_snoc (es : List En) (e : En) (x : ByteArray) : balW (es ++ [e]) x = balStep x (balW es x) e := by
  unfold balW; rw [List.foldl_append]; rfl

theorem strKeys_put {D : DataW Unit} {k : List UInt8} {d : DataW Unit} : ∀ x ∈ strKeys (D.put (.string k) d), x = k ∨ x ∈ strKeys D := by
  intro x hx
  cases D with
  | map es =>
    have hx' : x ∈ (DataW.insert (Lit.string k, d) (es.filter fun p => !p.1.sameKey (.string k))).map (fun p => strOf p.1) := hx
    rw [List.mem_map] at hx'
    obtain ⟨p, hp, rfl⟩ := hx'
    have hp2 := (WideShapes.insert_perm _ _).mem_iff.1 hp
    rcases List.mem_cons.1 hp2 with rfl | h
    · exact .inl rfl
    · exact .inr (List.mem_map.2 ⟨p, (List.mem_filter.1 h).1, rfl⟩)
  | _ => exact .inr hx

theorem bal_put_same {D : DataW Unit} (hD : IsMap D) (x : ByteArray) (c : Int) : bal (D.put (K x) (.lit (.int .i64 c))) x = c := by
  unfold bal; rw [atKey_put_same hD (isK x)]; rfl
theorem bal_put_other {D : DataW Unit} {x y : ByteArray} (hne : y.toList ≠ x.toList) (c : Int) : bal (D.put (K x) (.lit (.int .i64 c))) y = bal D y := by
  unfold bal; rw [atKey_put_other (fun e => hne (by rw [← tl, ← tl]; injection e))]

theorem bal_congr (D : DataW Unit) {x y : ByteArray} (h : x.toList = y.toList) : bal D x = bal D y := by unfold bal; rw [tl, tl, h]

theorem Inv.step {D : DataW Unit} {es : List En} (h : Inv D es) (hT : Tidy D) (e : En) (h0 : mayL es e = 0) : Inv (putE D e.db e.cr e.am) (es ++ [e]) := by
  have c : okName e.db = true ∧ okName e.cr = true ∧ (e.db.toList == e.cr.toList) = false ∧ ¬ e.am < 1 ∧ ¬ e.am > 4503599627370496 := by
    by_cases c : okName e.db = true ∧ okName e.cr = true ∧ (e.db.toList == e.cr.toList) = false ∧ ¬ e.am < 1 ∧ ¬ e.am > 4503599627370496
    · exact c
    · unfold mayL at h0; rw [if_neg c] at h0; cases h0
  have c2 : ¬ e.dy < 0 ∧ ¬ e.dy > 109572 := by
    by_cases c2 : ¬ e.dy < 0 ∧ ¬ e.dy > 109572
    · exact c2
    · unfold mayL at h0; rw [if_pos c, if_neg c2] at h0; cases h0
  have c3 : ¬ (wrap64 (balW es e.db + e.am) > 4611686018427387904 ∨ wrap64 (balW es e.cr - e.am) < -4611686018427387904) := fun c3 => by
    unfold mayL at h0; rw [if_pos c, if_pos c2, if_pos c3] at h0; cases h0
  obtain ⟨n1, n2, hne, a1, a2⟩ := c
  have hne' : e.db.toList ≠ e.cr.toList := by simpa using hne
  have b1 := h.hbnd e.db
  have b2 := h.hbnd e.cr
  have w1 : wrap64 (balW es e.db + e.am) = balW es e.db + e.am := by unfold wrap64; omega
  have w2 : wrap64 (balW es e.cr - e.am) = balW es e.cr - e.am := by unfold wrap64; omega
  rw [w1, w2] at c3
  have hM : IsMap D := hT.isMap
  have hM1 : IsMap (D.put (K e.db) (.lit (.int .i64 (IntKind.i64.wrap (bal D e.db + e.am))))) := by
    obtain ⟨l, rfl⟩ := hM; exact ⟨_, rfl⟩
  have hst : ∀ x, balStep x (balW es x) e = if x.toList = e.db.toList then balW es e.db + e.am else if x.toList = e.cr.toList then balW es e.cr - e.am else balW es x := by
    intro x
    have hx : ∀ y : ByteArray, x.toList = y.toList → balW es x = balW es y := fun y hy => by rw [← h.hbal, ← h.hbal]; exact bal_congr D hy
    unfold balStep
    by_cases d1 : x.toList = e.db.toList
    · have f1 : (e.db.toList == x.toList) = true := by simp [d1]
      have f2 : (e.cr.toList == x.toList) = false := by simpa [d1] using fun d => hne' d.symm
      simp only [f1, f2, if_true, Bool.false_eq_true, if_false]
      rw [if_pos d1, hx e.db d1, w1]
    · have f1 : (e.db.toList == x.toList) = false := by simpa using fun d => d1 d.symm
      by_cases d2 : x.toList = e.cr.toList
      · have f2 : (e.cr.toList == x.toList) = true := by simp [d2]
        simp only [f1, f2, if_true, Bool.false_eq_true, if_false]
        rw [if_neg d1, if_pos d2, hx e.cr d2, w2]
      · have f2 : (e.cr.toList == x.toList) = false := by simpa using fun d => d2 d.symm
        simp only [f1, f2, Bool.false_eq_true, if_false]
        rw [if_neg d1, if_neg d2]
  have hb : ∀ x, balW (es ++ [e]) x = if x.toList = e.db.toList then balW es e.db + e.am else if x.toList = e.cr.toList then balW es e.cr - e.am else balW es x := fun x => by rw [balW_snoc, hst]
  refine ⟨fun x => ?_, fun x => ?_, ?_, fun x hx => ?_, fun e' he' => ?_⟩
  · rw [hb x]
    have q1 : bal (D.put (K e.db) (.lit (.int .i64 (IntKind.i64.wrap (bal D e.db + e.am))))) e.cr = bal D e.cr := bal_put_other (fun d => hne' d.symm) _
    show bal (DataW.put (D.put (K e.db) (.lit (.int .i64 (IntKind.i64.wrap (bal D e.db + e.am))))) (K e.cr) (.lit (.int .i64 (IntKind.i64.wrap (bal (D.put (K e.db) (.lit (.int .i64 (IntKind.i64.wrap (bal D e.db + e.am))))) e.cr - e.am))))) x = _
    rw [q1, h.hbal, h.hbal, IntWalk.i64_left, IntWalk.i64_left, w1, w2]
    by_cases d2 : x.toList = e.cr.toList
    · have d1 : ¬ x.toList = e.db.toList := fun d1 => hne' (by rw [← d1, d2])
      rw [if_neg d1, if_pos d2, bal_congr _ d2, h.hbal, IntWalk.i64_left, w1] at *
      exact bal_put_same (by obtain ⟨l, rfl⟩ := hM; exact ⟨_, rfl⟩) _ _
    · rw [bal_put_other d2]
      by_cases d1 : x.toList = e.db.toList
      · rw [if_pos d1, bal_congr _ d1]
        exact bal_put_same hM _ _
      · rw [if_neg d1, if_neg d2, bal_put_other d1, h.hbal]
  · rw [hb x]
    have b3 := h.hbnd x
    split
    · omega
    · split
      · omega
      · exact b3
  · have t1 := tot_putE hT e.db e.cr e.am
    have t2 := h.htot
    omega
  · rcases strKeys_put x hx with rfl | hx
    · exact ⟨e, by simp, .inr (tl _).symm⟩
    · rcases strKeys_put x hx with rfl | hx
      · exact ⟨e, by simp, .inl (tl _).symm⟩
      · obtain ⟨e', he', hn⟩ := h.hkeys x hx
        exact ⟨e', by simp [he'], hn⟩
  · rcases List.mem_append.1 he' with he' | he'
    · exact h.hnames e' he'
    · simp at he'; subst he'; exact ⟨n1, n2⟩

theorem KS_sorted {w : World} {bm n : Nat} {D : DataW Unit} (h : w.ownsMap Try.prog 9 (plainElem Try.prog 2) bm n D) : ∀ i (hi : i + 1 < (KS D).length), ((KS D)[i]'(by omega)) < ((KS D)[i + 1]'hi) := by
  have tr : ∀ a b c : List UInt8, leB a b = true → leB b c = true → leB a c = true := fun a b c h1 h2 => by simp only [leB, decide_eq_true_eq] at *; exact List.le_trans h1 h2
  have to : ∀ a b : List UInt8, (leB a b || leB b a) = true := fun a b => by simp only [leB, Bool.or_eq_true, decide_eq_true_eq]; exact List.le_total a b
  have hs : (KS D).Pairwise (fun a b => leB a b = true) := List.pairwise_mergeSort tr to _
  have hn : (KS D).Nodup := by
    refine (List.mergeSort_perm _ _).nodup_iff.2 ?_
    obtain ⟨es, rfl, hp, hk'⟩ := h.entries law9
    have hk := keys_str h
    show (es.map fun p => strOf p.1).Nodup
    refine List.pairwise_map.2 (hp.imp_of_mem fun {p q} hp' hq' hne e => hne ?_)
    obtain ⟨a, ha⟩ := hk p hp'
    obtain ⟨b, hb⟩ := hk q hq'
    rw [ha, hb] at e ⊢
    exact congrArg _ e
  intro i hi
  have h1 := List.pairwise_iff_getElem.1 hs i (i + 1) (by omega) hi (by omega)
  have h2 := List.pairwise_iff_getElem.1 hn i (i + 1) (by omega) hi (by omega)
  simp only [leB, decide_eq_true_eq] at h1
  by_cases h3 : ((KS D)[i]'(by omega)) < ((KS D)[i + 1]'hi)
  · exact h3
  · exact absurd (List.le_antisymm h1 (List.not_lt.1 h3)) h2
end Go.Bk

namespace Go.Bk
open Go Go.Maps Go.RowKit Go.Proofs
set_option linter.unusedVariables false

theorem Inv.cnt {D : DataW Unit} {es : List En} (h : Inv D es) : ∀ x ∈ KS D, 0 < cntN es ⟨x.toArray⟩ ∧ (es.filter (fun e => !delP ⟨x.toArray⟩ e)).length = cntN es ⟨x.toArray⟩ := by
  intro x hx
  have hx' : x ∈ strKeys D := (List.mergeSort_perm _ _).mem_iff.1 hx
  obtain ⟨e, he, hn⟩ := h.hkeys x hx'
  have hk : (⟨x.toArray⟩ : ByteArray).toList = x := by rw [ByteArray.toList_eq]
  have hne : x ≠ [] := by
    rintro rfl
    obtain ⟨n1, n2⟩ := h.hnames e he
    rcases hn with hn | hn
    · have z : e.db.size = 0 := by
        have := congrArg List.length hn
        rw [← tl, List.length_nil, Array.length_toList] at this
        exact this
      have := (okName_iff e.db).1 n1
      omega
    · have z : e.cr.size = 0 := by
        have := congrArg List.length hn
        rw [← tl, List.length_nil, Array.length_toList] at this
        exact this
      have := (okName_iff e.cr).1 n2
      omega
  have hf : ∀ e : En, (!delP ⟨x.toArray⟩ e) = namedB ⟨x.toArray⟩ e := by
    intro e
    unfold delP namedB
    rw [hk]
    have : (x != ([] : List UInt8)) = true := by simpa using hne
    rw [this]
    simp only [bne, Bool.true_and]
    cases (e.db.toList == x) <;> cases (e.cr.toList == x) <;> rfl
  refine ⟨?_, ?_⟩
  · have : e ∈ es.filter (namedB ⟨x.toArray⟩) := List.mem_filter.2 ⟨he, by unfold namedB; rw [hk]; rcases hn with hn | hn <;> simp [hn]⟩
    exact List.length_pos_of_mem this
  · unfold cntN
    congr 1
    exact List.filter_congr fun e _ => hf e

/-- The list behind k entries. -/
def esN (es : List En) (E : Nat → En) : Nat → List En
  | 0 => es
  | k + 1 => esN es E k ++ [E k]
theorem esN_length (es : List En) (E : Nat → En) : ∀ k, (esN es E k).length = es.length + k
  | 0 => rfl
  | k + 1 => by simp [esN, esN_length es E k]; omega
theorem tidy_putE {D : DataW Unit} (h : Tidy D) (db cr : ByteArray) (am : Int) : Tidy (putE D db cr am) := by
  unfold putE
  exact Tidy.put (Tidy.put h (isK db) _) (isK cr) _
theorem group {D : DataW Unit} {es : List En} (h : Inv D es) (hT : Tidy D) (E : Nat → En) : ∀ k, (∀ j, j < k → rN D (fun j => (E j).dy) (fun j => (E j).am) (fun j => (E j).db) (fun j => (E j).cr) j = 0) →
    Inv (dN D (fun j => (E j).am) (fun j => (E j).db) (fun j => (E j).cr) k) (esN es E k) ∧ Tidy (dN D (fun j => (E j).am) (fun j => (E j).db) (fun j => (E j).cr) k)
  | 0, _ => ⟨h, hT⟩
  | k + 1, hr => by
    obtain ⟨i1, t1⟩ := group h hT E k (fun j hj => hr j (by omega))
    have h0 := hr k (by omega)
    unfold rN at h0
    rw [may_eq i1 (E k)] at h0
    exact ⟨i1.step t1 (E k) h0, tidy_putE t1 _ _ _⟩
theorem rN_eq {D : DataW Unit} {es : List En} (h : Inv D es) (hT : Tidy D) (E : Nat → En) (k : Nat) (hr : ∀ j, j < k → rN D (fun j => (E j).dy) (fun j => (E j).am) (fun j => (E j).db) (fun j => (E j).cr) j = 0) :
    rN D (fun j => (E j).dy) (fun j => (E j).am) (fun j => (E j).db) (fun j => (E j).cr) k = mayL (esN es E k) (E k) := by
  unfold rN
  exact may_eq (group h hT E k hr).1 (E k)
theorem xN_eq (es : List En) (E : Nat → En) : ∀ k, xN (encL es) (fun j => (E j).dy) (fun j => (E j).am) (fun j => (E j).db) (fun j => (E j).cr) (fun j => (E j).me) k = encL (esN es E k)
  | 0 => rfl
  | k + 1 => by
    show xN (encL es) _ _ _ _ _ k ++ _ = _
    rw [xN_eq es E k, show esN es E (k + 1) = esN es E k ++ [E k] from rfl, encL_snoc]
    rfl
theorem Ents.sub {w : World} {x : Addr} {len : Nat} {dy am : Nat → Int} {db cr me : Nat → ByteArray} (h : Ents w (some x) len dy am db cr me) (i t : Nat) (hit : i + t ≤ len) :
    Ents w (some (x.add (i * 5))) t (fun j => dy (i + j)) (fun j => am (i + j)) (fun j => db (i + j)) (fun j => cr (i + j)) (fun j => me (i + j)) := by
  refine ⟨fun j hj => ?_, fun j hj => h.wf (i + j) (by omega)⟩
  obtain ⟨x', e, hx, c0, c1, c2, c3, c4⟩ := h.cells (i + j) (by omega)
  cases e
  have key : ∀ c, (x.add (i * 5)).add (j * 5 + c) = x.add ((i + j) * 5 + c) := fun c => by rw [Go.Deep.add_add]; congr 1; omega
  refine ⟨_, rfl, by rw [add_block]; exact hx, ?_, ?_, ?_, ?_, ?_⟩
  · rw [key]; exact c0
  · rw [key]; exact c1
  · rw [key]; exact c2
  · rw [key]; exact c3
  · rw [key]; exact c4
end Go.Bk
