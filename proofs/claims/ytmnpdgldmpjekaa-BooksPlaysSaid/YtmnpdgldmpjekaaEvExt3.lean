/- Ext3: the sums of a map's values, in whatever order it is ranged over: what is not of a dump. -/
import Derived.Test.YtmnpdgldmpjekaaEvExt2
import Derived.Maps.RangeRun
namespace Go.EvM
open Go.RowKit
open Go.ChangeMaps (setBlock)
set_option linter.unusedVariables false
variable {P : Program} {cx : Cx}

def F0 : Caller := fun _ _ _ => .no
theorem F0_sound : CallSound P F0 := fun f args h v h' e => by cases e

def regOps : Code → Nat → Array Oper
  | .region id ops _, k => if id = k then ops else #[]
  | .seq a b, k => let x := regOps a k; if x.size = 0 then regOps b k else x
  | .cond _ a b, k => let x := regOps a k; if x.size = 0 then regOps b k else x
  | .block _ a, k => regOps a k
  | .loop a, k => regOps a k
  | .scope a, k => regOps a k
  | .rangeFunc _ _ a b, k => let x := regOps a k; if x.size = 0 then regOps b k else x
  | _, _ => #[]
def opAt (ops : Array Oper) (i : Nat) : Oper := (ops[i]?).getD { dst := none, op := .move (.const (.bool false)), type := 0, pos := "", after := #[], guard := none }

theorem wr_wr (a b : Int) : wr .i64 (wr .i64 a + b) = wr .i64 (a + b) := by
  simp only [wr_eq]
  have : ∀ n, IntKind.wrap .i64 n = wrap64 n := fun n => by unfold wrap64; exact IntKind.wrap_i64 n
  simp only [this, wrap64]; omega

/-! ### Sums over what is left -/
def upOf (e : MapEntry) : Int := match e.val with | .int _ v => if 0 < v then v else 0 | _ => 0
def dnOf (e : MapEntry) : Int := match e.val with | .int _ v => if 0 < v then 0 else -v | _ => 0
def sumBy (f : MapEntry → Int) : List MapEntry → Int
  | [] => 0
  | e :: l => f e + sumBy f l

theorem sumBy_out (f : MapEntry → Int) {e : MapEntry} : ∀ {l : List MapEntry}, (l.map (·.born)).Nodup → e ∈ l → sumBy f l = f e + sumBy f (l.filter fun x => !(x.born == e.born))
  | [], _, h => by simp at h
  | x :: l, hn, h => by
    rw [List.map_cons, List.nodup_cons] at hn
    rcases List.mem_cons.1 h with rfl | h
    · have : l.filter (fun y => !(y.born == e.born)) = l := List.filter_eq_self.2 fun y hy => by
        have : y.born ≠ e.born := fun hb => hn.1 (hb ▸ List.mem_map_of_mem hy)
        simpa using this
      simp [sumBy, this]
    · have hne : x.born ≠ e.born := fun hb => hn.1 (hb ▸ List.mem_map_of_mem h)
      have := sumBy_out f hn.2 h
      simp only [sumBy, List.filter_cons]
      rw [if_pos (by simpa using hne)]
      simp only [sumBy, this]; omega

theorem left_push (arr : Array MapEntry) (seen : Array Nat) (b : Nat) : (leftOf arr (seen.push b)).toList = (leftOf arr seen).toList.filter fun x => !(x.born == b) := by
  simp only [leftOf, Array.toList_filter, List.filter_filter]
  congr 1; funext x
  simp only [Array.contains_push]
  cases seen.contains x.born <;> cases h : x.born == b <;> simp_all

theorem left_nodup {arr : Array MapEntry} (hn : (arr.toList.map (·.born)).Nodup) (seen : Array Nat) : ((leftOf arr seen).toList.map (·.born)).Nodup := by
  simp only [leftOf, Array.toList_filter]
  exact hn.sublist (List.filter_sublist.map _)

theorem upDown_cons (k v : Value) (b : Nat) (es : List (Value × Value × Nat)) : upDown ((k, v, b) :: es) = (match v, upDown es with
    | .int .i64 v, some (u, d) => bif ltI 0 v then some (Int.add u v, d) else some (u, Int.sub d v)
    | _, _ => none) := rfl
/-- The sums are those of the entries; each value is a number. -/
theorem upDown_ok {μ : Mu} : ∀ {es : List (Value × Value × Nat)} {r : List MapEntry} {u d : Int}, EntR μ es r → upDown es = some (u, d) → u = sumBy upOf r ∧ d = sumBy dnOf r ∧ ∀ e ∈ r, ∃ v, e.val = .int .i64 v
  | [], [], u, d, _, h => by cases h; exact ⟨rfl, rfl, fun e h => by simp at h⟩
  | (k, v, b) :: es, x :: r, u, d, ⟨h1, h2, h3, h4⟩, h => by
    rw [upDown_cons] at h
    split at h
    · rename_i v u' d' hud
      obtain ⟨g1, g2, g3⟩ := upDown_ok h4 hud
      generalize hx : x.val = y at h2
      cases h2
      have hall : ∀ e ∈ x :: r, ∃ v, e.val = .int .i64 v := fun e he => by
        rcases List.mem_cons.1 he with rfl | he
        · exact ⟨v, hx⟩
        · exact g3 e he
      rw [ltI_eq] at h
      by_cases hp : (0 : Int) < v
      · simp only [hp, decide_true, cond_true] at h
        cases h
        refine ⟨?_, ?_, hall⟩
        · show u' + v = _; simp only [sumBy, upOf, hx, hp, if_true]; omega
        · simp only [sumBy, dnOf, hx, hp, if_true]; omega
      · simp only [hp, decide_false, cond_false] at h
        cases h
        refine ⟨?_, ?_, hall⟩
        · simp only [sumBy, upOf, hx, hp, if_false]; omega
        · show d' - v = _; simp only [sumBy, dnOf, hx, hp, if_false]; omega
    · cases h
  | [], _ :: _, _, _, h, _ => h.elim
  | _ :: _, [], _, _, h, _ => h.elim

/-! ### States written out -/
theorem ActR.norm {μ : Mu} {n : Nat} {T T' : Tr Value} {D : List Dfr} {H H' : Hp} {a : Act} (h : ActR μ ⟨n, T, D, H⟩ a) (hs : ∀ t, t < n → slot T' t = slot T t) (ho : ∀ t, n ≤ t → slot T' t = undef) : ActR μ ⟨n, T', D, H'⟩ a := by
  refine ⟨h.size, fun t => ?_, h.dfr⟩
  by_cases ht : t < n
  · have := h.tmp t; simp only at this ⊢; rw [hs t ht]; exact this
  · simp only; rw [ho t (by omega)]
    have hsz : a.tmps.size = n := h.size
    have : a.tmps.getD t undef = undef := by
      rw [Array.getD_eq_getD_getElem?, Array.getElem?_eq_none (by omega)]; rfl
    rw [this]; exact undefR μ

theorem slot_ofL (l : List Value) (t : Nat) : slot (Tr.ofL l) t = (l[t]?).getD undef := by
  simp only [slot, Tr.get_ofL]
  cases l[t]? <;> rfl
theorem slot_put (T : Tr Value) (t : Nat) (v : Value) (s : Nat) : slot (T.put t v) s = if s = t then v else slot T s := by
  simp only [slot, Tr.get_put]
  by_cases h : s = t <;> simp [h]

theorem ext_cases {f k : Nat} {x e : List Value → Hp → OR} {r : Option (List Value → Hp → OR)} (h : (bif Nat.beq f k then some x else r) = some e) : (f = k ∧ x = e) ∨ r = some e := by
  cases h1 : Nat.beq f k with
  | true => rw [h1] at h; exact .inl ⟨Nat.eq_of_beq_eq_true h1, Option.some.inj h⟩
  | false => rw [h1] at h; exact .inr h
theorem sum_of {f k : Nat} {x e : List Value → Hp → OR} (h : f = k ∧ x = e) (H : SumOk P k x) : SumOk P f e := by
  obtain ⟨rfl, rfl⟩ := h; exact H

end Go.EvM
