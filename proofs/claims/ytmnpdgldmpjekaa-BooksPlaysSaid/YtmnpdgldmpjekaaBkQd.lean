/- BkQ7: which entries are struck; slices.IndexFunc at them. -/
import Derived.Test.YtmnpdgldmpjekaaBkQa
import Derived.Test.YtmnpdgldmpjekaaBkP10
import Derived.LoopTactic
import Derived.Shelf.GgClosure.Gives
import Derived.Test.YtmnpdgldmpjekaaBkP9
import Derived.Deep.QuietTactic
import Derived.BigQuiet
namespace Go.Bk
open Go Go.Maps Go.RowKit Go.Proofs
set_option linter.unusedVariables false

/-- Is an entry struck? -/
def delP (acc : ByteArray) (e : En) : Bool := (acc.toList != ([] : List UInt8)) && (e.db.toList != acc.toList) && (e.cr.toList != acc.toList)

theorem closure {W : World} {b : Nat} {acc : ByteArray} (hb : W.cell? ⟨b, 0, none⟩ = some (.string acc)) (e : En) :
    Calls Try.prog 27 #[.agg e.cells.toArray, .pointer (some ⟨b, 0, none⟩)] W fun ee w' => ee = .returned (.bool (delP acc e)) ∧ Below W.heap.size W w' := by
  have hlt : b < W.heap.size := cell_lt hb
  have hb2 : (W.alloc (.cells #[.int .i64 e.dy, .string e.db, .string e.cr, .int .i64 e.am, .string e.me] 29)).cell? ⟨b, 0, none⟩ = some (.string acc) := (((Below.refl W.heap.size W).alloc (Nat.le_refl _) _).cell (p := ⟨b, 0, none⟩) hlt).trans hb
  have hne : b ≠ W.heap.size := by omega
  show Calls Try.prog 27 #[.agg #[.int .i64 e.dy, .string e.db, .string e.cr, .int .i64 e.am, .string e.me], .pointer (some ⟨b, 0, none⟩)] W _
  by_cases h1 : acc.toList = []
  · have hd : delP acc e = false := by simp [delP, h1]
    rw [hd]
    go_enter Try.func27, Try.ntmps27
    go_wp2
    all_goals (go_ret; exact ⟨by simp, (Below.refl _ _).alloc (Nat.le_refl _) _⟩)
  · by_cases h2 : e.db.toList = acc.toList
    · have hd : delP acc e = false := by simp [delP, h2]
      rw [hd]
      go_enter Try.func27, Try.ntmps27
      go_wp2
      all_goals (go_ret; exact ⟨by simp, (Below.refl _ _).alloc (Nat.le_refl _) _⟩)
    · have hd : delP acc e = (e.cr.toList != acc.toList) := by simp [delP, h1, h2]
      rw [hd]
      go_enter Try.func27, Try.ntmps27
      go_wp2
      all_goals (go_ret; exact ⟨by rw [show acc.toList.isEmpty = false by simp [h1], show (e.db.toList == acc.toList) = false by simp [h2]]; simp [bne], (Below.refl _ _).alloc (Nat.le_refl _) _⟩)

set_option maxHeartbeats 4000000 in
theorem idxFunc {v : Value} {es : List En} {w : World} (h : RowV w v es) {b : Nat} {acc : ByteArray} (hb : w.cell? ⟨b, 0, none⟩ = some (.string acc)) (hm : es.length < 1000000) :
    Calls Try.prog 33 #[v, .func (.func 27) #[] #[.pointer (some ⟨b, 0, none⟩)]] w fun ee w' => ∃ r : Int, ee = .returned (.int .i64 r) ∧ Below w.heap.size w w' ∧
      ((r = -1 ∧ ∀ j (hj : j < es.length), delP acc (es[j]'hj) = false) ∨ ∃ k, ∃ hk : k < es.length, r = k ∧ delP acc (es[k]'hk) = true ∧ ∀ j (hj : j < k), delP acc (es[j]'(Nat.lt_trans hj hk)) = false) := by
  obtain ⟨a, cap, rfl⟩ := h.len
  have eg : ∀ args w, (callFunc 27 args).run Try.prog w = .ok (.enter 27 args) w := enters_of Try.func27 (by kernel_rfl) rfl
  have hlt : b < w.heap.size := cell_lt hb
  go_enter Try.func33, Try.ntmps33
  go_wp2
  go_loopw [8] (fun v8 wr => ∃ k : Nat, v8 = .int .i64 k ∧ k ≤ es.length ∧ Below w.heap.size w wr ∧ ∀ j (hj : j < es.length), j < k → delP acc (es[j]'hj) = false) (fun i _ => es.length - (RowKit.intOf i).toNat)
  case atStart => exact ⟨0, rfl, by omega, Below.refl _ _, fun j hj h => by omega⟩
  case round =>
    obtain ⟨k, rfl, hk, hbw, hall⟩ := hrel
    by_cases hlt2 : k < es.length
    · obtain ⟨g, cap', e, hg, c0, c1, c2, c3, c4⟩ := (h.below hbw).at k hlt2
      cases e
      have b1 : (k : Int) < (es.length : Int) := by omega
      have hcl := closure ((hbw.cell (p := ⟨b, 0, none⟩) hlt).trans hb) (es[k]'hlt2)
      change Calls Try.prog 27 #[.agg #[.int .i64 (es[k]'hlt2).dy, .string (es[k]'hlt2).db, .string (es[k]'hlt2).cr, .int .i64 (es[k]'hlt2).am, .string (es[k]'hlt2).me], .pointer (some ⟨b, 0, none⟩)] wr _ at hcl
      have hq : delP acc (es[k]'hlt2) = true ∨ delP acc (es[k]'hlt2) = false := by cases delP acc (es[k]'hlt2) <;> simp
      rcases hq with hq | hq
      · rw [hq] at hcl
        go_wp2_with (first
          | (go_at_fn 27; with_reducible refine hcl.mono ?_; rintro e w3 ⟨rfl, hb3⟩)
          | go_in)
        go_ret
        exact ⟨k, rfl, hbw.trans (hb3.mono hbw.size), .inr ⟨k, hlt2, rfl, hq, fun j hj => hall j _ hj⟩⟩
      · rw [hq] at hcl
        go_wp2_with (first
          | (go_at_fn 27; with_reducible refine hcl.mono ?_; rintro e w3 ⟨rfl, hb3⟩)
          | go_in)
        go_roundw
        case rel =>
          refine ⟨k + 1, by simp, by omega, hbw.trans (hb3.mono hbw.size), fun j hj hjk => ?_⟩
          by_cases hjk' : j < k
          · exact hall j hj hjk'
          · obtain rfl : j = k := by omega
            exact hq
        case measure => simp [RowKit.intOf]; omega
    · go_wp2
      go_ret
      exact ⟨-1, rfl, hbw, .inl ⟨rfl, fun j hj => hall j hj (by omega)⟩⟩
end Go.Bk

namespace Go.Bk
open Go Go.Maps Go.RowKit Go.Proofs
set_option linter.unusedVariables false

theorem of_own29 {w : World} {B n : Nat} {v : Value} {es : List En} (h : w.ownsRow B 29 5 v n (encL es)) (hn : n = es.length) (hv : v = .slice none 0 0 ∨ 0 < n) : RowV w v es := by
  subst hn
  rcases row_val h with ⟨rfl, e⟩ | ⟨g, cap, cur, rfl, hg, h1, h2, h3⟩
  · exact .inl ⟨rfl, List.eq_nil_of_length_eq_zero e⟩
  · refine .inr ⟨g, cap, rfl, by rcases hv with h | h; · cases h
                                 · exact h, (Array.getElem?_eq_some_iff.1 hg).1, fun j u hj => ?_⟩
    have : cur.toList[j]? = some u := by
      rw [← h3, List.getElem?_take] at hj
      split at hj
      · exact hj
      · cases hj
    have z := World.news_of_block hg j u this
    rw [Addr.add_lit, Nat.zero_add] at z
    exact z

structure Hid8 (p : Prop) : Prop where mk :: (out : p)
theorem bcell8 {w : World} {g : Nat} {cs : Array Value} {t : TypeId} {fz : Nat × Nat} (h : w.heap[g]? = some (.cells cs t fz)) (i : Nat) {u : Value} (e : cs[i]? = some u) : w.cell? ⟨g, i, none⟩ = some u := by simp [World.cell?, h, e]
theorem bex8 {w : World} {g : Nat} {cs : Array Value} {t : TypeId} {fz : Nat × Nat} (h : w.heap[g]? = some (.cells cs t fz)) (i : Nat) (hi : i < cs.size) : ∃ u, w.cell? ⟨g, i, none⟩ = some u := ⟨cs[i], by simp [World.cell?, h, Array.getElem?_eq_getElem hi]⟩
theorem bfz8 {w : World} {g : Nat} {cs : Array Value} {t : TypeId} (h : w.heap[g]? = some (.cells cs t (0, 0))) (i : Nat) : w.frozen? ⟨g, i, none⟩ = false := by simp [World.frozen?, h]
theorem set5 {w : World} {g : Nat} {cu : Array Value} (h : w.heap[g]? = some (.cells cu 29 (0, 0))) (k : Nat) (a0 a1 a2 a3 a4 : Value) :
    ∃ cu', (((((w.setCell ⟨g, k, none⟩ a0).setCell ⟨g, k + 1, none⟩ a1).setCell ⟨g, k + 2, none⟩ a2).setCell ⟨g, k + 3, none⟩ a3).setCell ⟨g, k + 4, none⟩ a4).heap[g]? = some (.cells cu' 29 (0, 0)) ∧ cu'.size = cu.size ∧ ∀ t, k + 5 ≤ t → cu'[t]? = cu[t]? := by
  have h0 := heap_setCell_same w g k _ 29 a0 h
  have h1 := heap_setCell_same _ g (k + 1) _ 29 a1 h0
  have h2 := heap_setCell_same _ g (k + 2) _ 29 a2 h1
  have h3 := heap_setCell_same _ g (k + 3) _ 29 a3 h2
  have h4 := heap_setCell_same _ g (k + 4) _ 29 a4 h3
  refine ⟨_, h4, by simp, fun t ht => ?_⟩
  simp only [Array.getElem?_setIfInBounds]
  rw [if_neg (by omega), if_neg (by omega), if_neg (by omega), if_neg (by omega), if_neg (by omega)]
theorem far5 {w : World} {g b : Nat} (hne : b ≠ g) (k : Nat) (a0 a1 a2 a3 a4 : Value) : (((((w.setCell ⟨g, k, none⟩ a0).setCell ⟨g, k + 1, none⟩ a1).setCell ⟨g, k + 2, none⟩ a2).setCell ⟨g, k + 3, none⟩ a3).setCell ⟨g, k + 4, none⟩ a4).cell? ⟨b, 0, none⟩ = w.cell? ⟨b, 0, none⟩ := by
  have key : (((((w.setCell ⟨g, k, none⟩ a0).setCell ⟨g, k + 1, none⟩ a1).setCell ⟨g, k + 2, none⟩ a2).setCell ⟨g, k + 3, none⟩ a3).setCell ⟨g, k + 4, none⟩ a4).heap[b]? = w.heap[b]? :=
    ((Below.heap_setCell _ _ _ b hne).trans ((Below.heap_setCell _ _ _ b hne).trans ((Below.heap_setCell _ _ _ b hne).trans ((Below.heap_setCell _ _ _ b hne).trans (Below.heap_setCell _ _ _ b hne)))))
  simp only [World.cell?, key]
theorem below_cells {B g : Nat} (hB : B ≤ g) : ∀ (vs : List Value) (o : Nat) (w W : World), Below B w W → Below B w (W.setCells g o vs)
  | [], o, w, W, h => h
  | v :: vs, o, w, W, h => below_cells hB vs (o + 1) w _ (h.setCell hB _)
theorem zc_one (n : Nat) : ∀ u ∈ (Builtin.zeroCells #[.int .i64 0, .string ⟨#[]⟩, .string ⟨#[]⟩, .int .i64 0, .string ⟨#[]⟩] n).toList, u.oneCell' = true := by
  intro u hu
  simp only [Builtin.zeroCells, Array.toList_map, List.mem_map] at hu
  obtain ⟨i, _, rfl⟩ := hu
  have h5 : i % 5 < 5 := Nat.mod_lt _ (by decide)
  show (#[Value.int .i64 0, .string ⟨#[]⟩, .string ⟨#[]⟩, .int .i64 0, .string ⟨#[]⟩][i % 5]!).oneCell' = true
  generalize i % 5 = k at h5
  match k, h5 with
  | 0, _ => rfl
  | 1, _ => rfl
  | 2, _ => rfl
  | 3, _ => rfl
  | 4, _ => rfl
theorem run_clear5 (w : World) (ty : TypeId) (b o n c : Nat) (hn : 0 < n) (hc : ∀ j, j < n * 5 → (w.cell? ⟨b, o + j, none⟩).isSome = true) (hf : ∀ j, j < n * 5 → w.frozen? ⟨b, o + j, none⟩ = false) :
    (Builtin.clear_ #[22] ty #[.slice (some ⟨b, o, none⟩) n c]).run Try.prog w = .ok (.tuple #[]) (w.setCells b o (Builtin.zeroCells #[.int .i64 0, .string ⟨#[]⟩, .string ⟨#[]⟩, .int .i64 0, .string ⟨#[]⟩] n).toList) := by
  have hl : (Builtin.zeroCells #[Value.int .i64 0, .string ⟨#[]⟩, .string ⟨#[]⟩, .int .i64 0, .string ⟨#[]⟩] n).toList.length = n * 5 := by simp [Builtin.zeroCells]
  have hst := run_storeCells_cells (P := Try.prog) b o (Builtin.zeroCells #[.int .i64 0, .string ⟨#[]⟩, .string ⟨#[]⟩, .int .i64 0, .string ⟨#[]⟩] n).toList 0 w (by rw [hl]; simpa using hc) (by rw [hl]; simpa using hf) (zc_one n)
  simp only [Nat.add_zero] at hst
  obtain ⟨m, rfl⟩ : ∃ m, n = m + 1 := ⟨n - 1, by omega⟩
  simp [Builtin.clear_, run_underlying Try.underlying22, Try.zeroValue29, Value.cells, hst]
set_option maxHeartbeats 4000000 in
theorem delFunc {B g cap b : Nat} {cur : Array Value} {es : List En} {acc : ByteArray} {w : World} (hB : B ≤ g) (hg : w.heap[g]? = some (.cells cur 29 (0, 0))) (hcs : cur.size = cap * 5) (hmc : es.length ≤ cap) (hxs : cur.toList.take (es.length * 5) = encL es) (hp : 0 < es.length)
    (hb : w.cell? ⟨b, 0, none⟩ = some (.string acc)) (hbg : b ≠ g) (hm : es.length < 1000000) (hr : RowV w (.slice (some ⟨g, 0, none⟩) es.length cap) es) (k0 : Nat) (hk0 : k0 < es.length) (hd0 : delP acc (es[k0]'hk0) = true) (hall : ∀ j (hj : j < k0), delP acc (es[j]'(Nat.lt_trans hj hk0)) = false)
    (hi : Calls Try.prog 33 #[.slice (some ⟨g, 0, none⟩) es.length cap, .func (.func 27) #[] #[.pointer (some ⟨b, 0, none⟩)]] w fun ee w' => ee = .returned (.int .i64 k0) ∧ Below w.heap.size w w') :
    Calls Try.prog 25 #[.slice (some ⟨g, 0, none⟩) es.length cap, .func (.func 27) #[] #[.pointer (some ⟨b, 0, none⟩)]] w fun ee w' => ∃ c, ee = .returned (.slice (some ⟨g, 0, none⟩) (es.filter (fun e => !delP acc e)).length c) ∧ Below B w w' := by
  have eg : ∀ args w, (callFunc 27 args).run Try.prog w = .ok (.enter 27 args) w := enters_of Try.func27 (by kernel_rfl) rfl
  have hlb : b < w.heap.size := cell_lt hb
  have hlg : g < w.heap.size := (Array.getElem?_eq_some_iff.1 hg).1
  have hne1 : ((k0 : Int) == -1) = false := beq_eq_false_iff_ne.2 (by omega)
  go_enter Try.func25, Try.ntmps25
  go_wp2_with (first
    | (go_at_call 33; with_reducible refine hi.mono ?_; rintro e w1 ⟨rfl, hb1⟩)
    | go_in)
  go_loopw [5, 6, 7] (fun v5 v6 _ wr => ∃ (i j : Nat) (cu : Array Value), v5 = .int .i64 i ∧ v6 = .int .i64 j ∧ i < j ∧ j ≤ es.length ∧ Hid8 (i = ((es.take j).filter (fun e => !delP acc e)).length) ∧ wr.heap[g]? = some (.cells cu 29 (0, 0)) ∧ cu.size = cap * 5 ∧
      (∀ t u, j * 5 ≤ t → (encL es)[t]? = some u → cu[t]? = some u) ∧ wr.cell? ⟨b, 0, none⟩ = some (.string acc) ∧ Below B w wr) (fun _ i _ _ => es.length - (RowKit.intOf i).toNat)
  case atStart =>
    refine ⟨k0, k0 + 1, cur, rfl, by simp, by omega, by omega, ⟨?_⟩, (hb1.block g hlg).trans hg, hcs, fun t u ht hu => ?_, (hb1.cell (p := ⟨b, 0, none⟩) hlb).trans hb, hb1.mono (Nat.le_trans hB (Nat.le_of_lt hlg))⟩
    · rw [List.take_succ_eq_append_getElem hk0, List.filter_append]
      have : (es.take k0).filter (fun e => !delP acc e) = es.take k0 := List.filter_eq_self.2 fun e he => by
        obtain ⟨j, hj, rfl⟩ := List.mem_take_iff_getElem.1 he
        rw [hall j (by omega)]; rfl
      rw [this]
      simp [hd0]
      omega
    · have hu' := hu
      rw [← hxs, List.getElem?_take] at hu'
      split at hu'
      · simpa using hu'
      · cases hu'
  case round =>
    obtain ⟨i, j, cu, rfl, rfl, hij, hj, hcnt, hgr, hcz, hcu, hbr, hBr⟩ := hrel
    by_cases hlt : j < es.length
    · have b1 : (j : Int) < (es.length : Int) := by omega
      have cc : ∀ c, c < 5 → ∀ u, (es[j]'hlt).cells[c]? = some u → wr.cell? ⟨g, j * 5 + c, none⟩ = some u := fun c hc u hu => by
        simp [World.cell?, hgr, hcu (j * 5 + c) u (by omega) ((encL_get es j hlt c hc).trans hu)]
      have c0 : wr.cell? ⟨g, j * 5, none⟩ = some (.int .i64 (es[j]'hlt).dy) := cc 0 (by decide) _ rfl
      have c1 := cc 1 (by decide) _ rfl
      have c2 := cc 2 (by decide) _ rfl
      have c3 := cc 3 (by decide) _ rfl
      have c4 := cc 4 (by decide) _ rfl
      clear cc
      have n1 : g ≠ wr.heap.size := by have := (Array.getElem?_eq_some_iff.1 hgr).1; omega
      have n2 : b ≠ wr.heap.size := by have := cell_lt hbr; omega
      have b2 : (i : Int) < (es.length : Int) := by omega
      have b3 : (0 : Int) ≤ (i : Int) := by omega
      have hbW : (wr.alloc (.cells #[.int .i64 (es[j]'hlt).dy, .string (es[j]'hlt).db, .string (es[j]'hlt).cr, .int .i64 (es[j]'hlt).am, .string (es[j]'hlt).me] 29)).cell? ⟨b, 0, none⟩ = some (.string acc) := (((Below.refl wr.heap.size wr).alloc (Nat.le_refl _) _).cell (p := ⟨b, 0, none⟩) (cell_lt hbr)).trans hbr
      have hcl := closure hbW (es[j]'hlt)
      change Calls Try.prog 27 #[.agg #[.int .i64 (es[j]'hlt).dy, .string (es[j]'hlt).db, .string (es[j]'hlt).cr, .int .i64 (es[j]'hlt).am, .string (es[j]'hlt).me], .pointer (some ⟨b, 0, none⟩)] _ _ at hcl
      have hgW : (wr.alloc (.cells #[.int .i64 (es[j]'hlt).dy, .string (es[j]'hlt).db, .string (es[j]'hlt).cr, .int .i64 (es[j]'hlt).am, .string (es[j]'hlt).me] 29)).heap[g]? = some (.cells cu 29 (0, 0)) := ((MapKept.heap_alloc _ _).2 _ (Array.getElem?_eq_some_iff.1 hgr).1).trans hgr
      have hNW : (wr.alloc (.cells #[.int .i64 (es[j]'hlt).dy, .string (es[j]'hlt).db, .string (es[j]'hlt).cr, .int .i64 (es[j]'hlt).am, .string (es[j]'hlt).me] 29)).heap[wr.heap.size]? = some (.cells #[.int .i64 (es[j]'hlt).dy, .string (es[j]'hlt).db, .string (es[j]'hlt).cr, .int .i64 (es[j]'hlt).am, .string (es[j]'hlt).me] 29 (0, 0)) := (MapKept.heap_alloc _ _).1
      have hBW : Below B w (wr.alloc (.cells #[.int .i64 (es[j]'hlt).dy, .string (es[j]'hlt).db, .string (es[j]'hlt).cr, .int .i64 (es[j]'hlt).am, .string (es[j]'hlt).me] 29)) := hBr.alloc (Nat.le_trans (Nat.le_trans hB (Nat.le_of_lt hlg)) hBr.size) _
      have hgl := (Array.getElem?_eq_some_iff.1 hgW).1
      have hbl := cell_lt hbW
      have hNl := (Array.getElem?_eq_some_iff.1 hNW).1
      have hq : delP acc (es[j]'hlt) = true ∨ delP acc (es[j]'hlt) = false := by cases delP acc (es[j]'hlt) <;> simp
      have htake : es.take (j + 1) = es.take j ++ [es[j]'hlt] := List.take_succ_eq_append_getElem hlt
      have hB0 : B ≤ w.heap.size := Nat.le_trans hB (Nat.le_of_lt hlg)
      rcases hq with hq | hq
      · rw [hq] at hcl
        go_wp2_with (first
          | (go_at_fn 27; with_reducible refine hcl.mono ?_; rintro e w3 ⟨rfl, hb3⟩)
          | go_in)
        go_roundw
        case rel =>
          refine ⟨i, j + 1, cu, rfl, by simp, by omega, by omega, ⟨by rw [htake, List.filter_append]; simp [hq]; exact hcnt.out⟩, (hb3.block g hgl).trans hgW, hcz, fun t u ht hu => hcu t u (by omega) hu, (hb3.cell (p := ⟨b, 0, none⟩) hbl).trans hbW, ?_⟩
          exact hBW.trans (hb3.mono (Nat.le_trans hB0 hBW.size))
        case measure => simp [RowKit.intOf]; omega
      · rw [hq] at hcl
        have pack : ∀ w3 : World, Below (wr.alloc (.cells #[.int .i64 (es[j]'hlt).dy, .string (es[j]'hlt).db, .string (es[j]'hlt).cr, .int .i64 (es[j]'hlt).am, .string (es[j]'hlt).me] 29)).heap.size (wr.alloc (.cells #[.int .i64 (es[j]'hlt).dy, .string (es[j]'hlt).db, .string (es[j]'hlt).cr, .int .i64 (es[j]'hlt).am, .string (es[j]'hlt).me] 29)) w3 →
            w3.heap[g]? = some (.cells cu 29 (0, 0)) ∧ w3.heap[wr.heap.size]? = some (.cells #[.int .i64 (es[j]'hlt).dy, .string (es[j]'hlt).db, .string (es[j]'hlt).cr, .int .i64 (es[j]'hlt).am, .string (es[j]'hlt).me] 29 (0, 0)) ∧ w3.cell? ⟨b, 0, none⟩ = some (.string acc) ∧ Below B w w3 := fun w3 hb3 =>
          ⟨(hb3.block g hgl).trans hgW, (hb3.block _ hNl).trans hNW, (hb3.cell (p := ⟨b, 0, none⟩) hbl).trans hbW, hBW.trans (hb3.mono (Nat.le_trans hB0 hBW.size))⟩
        go_wp2_with (first
          | (go_at_fn 27; with_reducible refine hcl.mono ?_; rintro e w3 ⟨rfl, hb3⟩; obtain ⟨hg3, hN3, hb3', hB3⟩ := pack w3 hb3; clear pack hcl hbW hgW hNW hBW hgl hbl hNl hb3 c0 c1 c2 c3 c4; have d0 := bcell8 hN3 0 rfl; have d1 := bcell8 hN3 (0 + 1) rfl; have d2 := bcell8 hN3 (0 + 2) rfl; have d3 := bcell8 hN3 (0 + 3) rfl; have d4 := bcell8 hN3 (0 + 4) rfl; obtain ⟨o0, q0⟩ := bex8 hg3 (i * 5) (by omega); obtain ⟨o1, q1⟩ := bex8 hg3 (i * 5 + 1) (by omega); obtain ⟨o2, q2⟩ := bex8 hg3 (i * 5 + 2) (by omega); obtain ⟨o3, q3⟩ := bex8 hg3 (i * 5 + 3) (by omega); obtain ⟨o4, q4⟩ := bex8 hg3 (i * 5 + 4) (by omega); have f0 := bfz8 hg3 (i * 5); have f1 := bfz8 hg3 (i * 5 + 1); have f2 := bfz8 hg3 (i * 5 + 2); have f3 := bfz8 hg3 (i * 5 + 3); have f4 := bfz8 hg3 (i * 5 + 4))
          | go_in)
        go_roundw
        case rel =>
          obtain ⟨cu', hc1, hc2, hc3⟩ := set5 hg3 (i * 5) (.int .i64 (es[j]'hlt).dy) (.string (es[j]'hlt).db) (.string (es[j]'hlt).cr) (.int .i64 (es[j]'hlt).am) (.string (es[j]'hlt).me)
          refine ⟨i + 1, j + 1, cu', by simp, by simp, by omega, by omega, ⟨by rw [htake, List.filter_append]; simp [hq]; exact hcnt.out⟩, hc1, hc2.trans hcz, fun t u ht hu => ?_, (far5 hbg _ _ _ _ _ _).trans hb3', ?_⟩
          · rw [hc3 t (by omega)]
            exact hcu t u (by omega) hu
          · exact ((((hB3.setCell hB _).setCell hB _).setCell hB _).setCell hB _).setCell hB _
        case measure => simp [RowKit.intOf]; omega
    · obtain rfl : j = es.length := by omega
      have hcl : ∀ ty, (Builtin.clear_ #[22] ty #[.slice (some ⟨g, i * 5, none⟩) (es.length - i) (cap - i)]).run Try.prog wr = .ok (.tuple #[]) (wr.setCells g (i * 5) (Builtin.zeroCells #[.int .i64 0, .string ⟨#[]⟩, .string ⟨#[]⟩, .int .i64 0, .string ⟨#[]⟩] (es.length - i)).toList) :=
        fun ty => run_clear5 wr ty g (i * 5) (es.length - i) (cap - i) (by omega) (fun k hk => by obtain ⟨u, hu⟩ := bex8 hgr (i * 5 + k) (by omega); rw [hu]; rfl) (fun k hk => bfz8 hgr _)
      have b1 : ¬ (es.length : Int) < (es.length : Int) := by omega
      have b2 : (i : Int) ≤ (es.length : Int) := by omega
      have b4 : (i : Int) ≤ (cap : Int) := by omega
      have b5 : (es.length : Int) ≤ (cap : Int) := by omega
      go_wp2
      go_ret
      have he : (es.filter (fun e => !delP acc e)).length = i := by rw [hcnt.out, List.take_length]
      refine ⟨⟨cap, ?_⟩, below_cells hB _ _ _ _ hBr⟩
      rw [he]
      rfl
end Go.Bk

namespace Go.Bk
open Go Go.Maps Go.RowKit Go.Proofs
set_option linter.unusedVariables false

theorem delNone {v : Value} {es : List En} {b : Nat} {w : World} (h : RowV w v es)
    (hi : Calls Try.prog 33 #[v, .func (.func 27) #[] #[.pointer (some ⟨b, 0, none⟩)]] w fun ee w' => ee = .returned (.int .i64 (-1)) ∧ Below w.heap.size w w') :
    Calls Try.prog 25 #[v, .func (.func 27) #[] #[.pointer (some ⟨b, 0, none⟩)]] w fun ee w' => ee = .returned v ∧ Below w.heap.size w w' := by
  obtain ⟨a, cap, rfl⟩ := h.len
  go_enter Try.func25, Try.ntmps25
  go_wp2_with (first
    | (go_at_call 33; with_reducible refine hi.mono ?_; rintro e w1 ⟨rfl, hb1⟩)
    | go_in)
  go_ret
  exact ⟨rfl, hb1⟩

theorem first_or (p : En → Bool) : ∀ es : List En, (∀ j (hj : j < es.length), p (es[j]'hj) = false) ∨ ∃ k, ∃ hk : k < es.length, p (es[k]'hk) = true ∧ ∀ j (hj : j < k), p (es[j]'(Nat.lt_trans hj hk)) = false
  | [] => .inl fun j hj => by simp at hj
  | e :: es => by
    cases h : p e with
    | true => exact .inr ⟨0, by simp, by simpa using h, fun j hj => by omega⟩
    | false =>
      rcases first_or p es with ha | ⟨k, hk, hp, ha⟩
      · refine .inl fun j hj => ?_
        cases j with
        | zero => simpa using h
        | succ j => simpa using ha j (by simpa using hj)
      · refine .inr ⟨k + 1, by simpa using hk, by simpa using hp, fun j hj => ?_⟩
        cases j with
        | zero => simpa using h
        | succ j => simpa using ha j (by omega)

/-- DeleteFunc at a fresh row. -/
theorem delAny {B n b : Nat} {v : Value} {es : List En} {acc : ByteArray} {w : World} (hown : w.ownsRow B 29 5 v n (encL es)) (hn : n = es.length) (hv : v = .slice none 0 0 ∨ 0 < n) (hB : B ≤ w.heap.size)
    (hb : w.cell? ⟨b, 0, none⟩ = some (.string acc)) (hbB : b < B) (hm : es.length < 1000000) :
    Calls Try.prog 25 #[v, .func (.func 27) #[] #[.pointer (some ⟨b, 0, none⟩)]] w fun ee w' => ∃ v', ee = .returned v' ∧ Below B w w' ∧ (∃ a c, v' = .slice a (es.filter (fun e => !delP acc e)).length c) ∧
      ((∀ j (hj : j < es.length), delP acc (es[j]'hj) = false) → RowV w' v' es) := by
  have hr := of_own29 hown hn hv
  have hidx := idxFunc hr hb hm
  rcases first_or (delP acc) es with ha | ⟨k, hk, hp, ha⟩
  · refine (delNone hr (hidx.mono ?_)).mono ?_
    · rintro e w' ⟨r, rfl, hbw, (⟨rfl, _⟩ | ⟨k, hk, rfl, hp, _⟩)⟩
      · exact ⟨rfl, hbw⟩
      · rw [ha k hk] at hp; cases hp
    · rintro e w' ⟨rfl, hbw⟩
      refine ⟨v, rfl, hbw.mono hB, ?_, fun _ => hr.below hbw⟩
      have : es.filter (fun e => !delP acc e) = es := List.filter_eq_self.2 fun e he => by
        obtain ⟨j, hj, rfl⟩ := List.getElem_of_mem he
        rw [ha j hj]; rfl
      rw [this]
      exact hr.len
  · subst hn
    rcases row_val hown with ⟨rfl, e⟩ | ⟨g, cap, cur, rfl, hg, h1, h2, h3⟩
    · omega
    · have hgB : B ≤ g := by
        rcases hown.2 with ⟨e, _⟩ | ⟨g', cap', cur', e, hb', _⟩
        · cases e
        · cases e; exact hb'
      refine (delFunc hgB hg h1 h2 h3 (by omega) hb (by omega) hm hr k hk hp ha (hidx.mono ?_)).mono ?_
      · rintro e w' ⟨r, rfl, hbw, (⟨rfl, hall⟩ | ⟨k', hk', rfl, hp', ha'⟩)⟩
        · rw [hall k hk] at hp; cases hp
        · have : k' = k := by
            rcases Nat.lt_trichotomy k' k with h | h | h
            · rw [ha k' h] at hp'; cases hp'
            · exact h
            · rw [ha' k h] at hp; cases hp
          subst this
          exact ⟨rfl, hbw⟩
      · rintro e w' ⟨c, rfl, hbw⟩
        exact ⟨_, rfl, hbw, ⟨_, _, rfl⟩, fun hall => by rw [hall k hk] at hp; cases hp⟩

set_option maxHeartbeats 4000000 in
theorem entries {sb bm n m B : Nat} {v : Value} {es : List En} {D : DataW Unit} {w : World} (bk : Books B sb bm n m v (encL es) D w) (hm : m = es.length) (hv : v = .slice none 0 0 ∨ 0 < m) (hmm : m < 1000000) (acc : ByteArray) :
    Calls Try.prog 18 #[.pointer (some ⟨sb, 0, none⟩), .string acc] w fun ee w' => ∃ v', ee = .returned v' ∧ Below w.heap.size w w' ∧ (∃ a c, v' = .slice a (es.filter (fun e => !delP acc e)).length c) ∧
      ((∀ j (hj : j < es.length), delP acc (es[j]'hj) = false) → RowV w' v' es) := by
  subst hm
  have bk1 := bk.kept (World.grownBy_alloc w (.cells #[.string acc] 9) none)
  have c0 := bk1.c0
  have hbx : (w.alloc (.cells #[.string acc] 9)).heap[w.heap.size]? = some (.cells #[.string acc] 9 (0, 0)) := (MapKept.heap_alloc w _).1
  have hsz : w.heap.size < (w.alloc (.cells #[.string acc] 9)).heap.size := by simp
  have hmm' : es.length < 1000000 := by omega
  have hdel := fun (wS : World) (a1 : Option Addr) (k1 : Nat) (hr1 : wS.ownsRow (w.alloc (.cells #[.string acc] 9)).heap.size 29 5 (.slice a1 es.length k1) es.length (encL es)) (hv1 : Value.slice a1 es.length k1 = .slice none 0 0 ∨ 0 < es.length) (hbS : Below (w.alloc (.cells #[.string acc] 9)).heap.size (w.alloc (.cells #[.string acc] 9)) wS) =>
    delAny hr1 rfl hv1 hbS.size (bcell8 ((hbS.block _ hsz).trans hbx) 0 rfl) hsz hmm'
  have hfin : ∀ wS wE, Below (w.alloc (.cells #[.string acc] 9)).heap.size (w.alloc (.cells #[.string acc] 9)) wS → Below (w.alloc (.cells #[.string acc] 9)).heap.size wS wE → Below w.heap.size w wE := fun wS wE h1 h2 =>
    (((Below.refl w.heap.size w).alloc (Nat.le_refl _) _).trans (h1.mono (Nat.le_of_lt hsz))).trans (h2.mono (Nat.le_of_lt hsz))
  have hrow1 := bk1.row
  clear hbx bk bk1 hsz
  go_enter Try.func18, Try.ntmps18
  go_wp2_with (first
    | (go_at_call 26; with_reducible refine (cloneS hrow1 hv hmm (encL_one es)).mono ?_; rintro e wS ⟨a1, k1, rfl, hr1, hv1, hbS⟩)
    | (go_at_call 25; with_reducible refine (hdel _ _ _ hr1 hv1 hbS).mono ?_; rintro e wE ⟨v', rfl, hbE, hlen, hrow⟩)
    | go_in)
  go_ret
  exact ⟨v', rfl, hfin _ _ hbS hbE, hlen, hrow⟩
end Go.Bk
