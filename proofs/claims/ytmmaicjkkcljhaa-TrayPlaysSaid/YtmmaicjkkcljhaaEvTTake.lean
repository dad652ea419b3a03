/- TTake: (*Tray).Take, at this dump. -/
import Derived.Test.YtmmaicjkkcljhaaEvTPut
import Derived.Conc.LoneCalls
import Derived.Conc.LoneSelectN
import Derived.KernelRfl
import Derived.Laws.Rows
import Derived.Laws.Tables
import Derived.Below
namespace Go.EvM.TTray
open Go.Conc Go.RowKit Go.Proofs
set_option linter.unusedVariables false
theorem res_r (a : Nat) (z v : Value) (ok : Bool) : commResult #[rcase a z] .select ((0 : Nat) : Int) v ok = .tuple #[goInt 0, .bool ok, v] := by
  simp [commResult, rcase, List.zipIdx_cons]
theorem res_rd (a : Nat) (z : Value) : commResult #[rcase a z] .select (-1) undef false = .tuple #[goInt (-1), .bool false, z] := by
  simp [commResult, rcase, List.zipIdx_cons]
/-- One old block is another; new blocks. -/
structure Upd (c : Nat) (o : Obj) (w w' : World) : Prop where
  os : w'.os = w.os
  tape : w'.tape = w.tape
  output : w'.output = w.output
  size : w.heap.size ≤ w'.heap.size
  same : ∀ k, k < w.heap.size → k ≠ c → w'.heap[k]? = w.heap[k]?
  new : w'.heap[c]? = some o
theorem upd_end {c s r : Nat} {buf : Array Value} {w W2 W3 : World} {o1 o2 : Obj} {x1 x2 x3 y1 y2 y3 : Value} (hc : c < w.heap.size) (h2 : (w.alloc o1).setChan c 8 (buf.extract 1 buf.size) false s (r + 1) false = W2) (hsz : W2.heap.size = w.heap.size + 1)
    (h3 : (((W2.alloc o2).setCell ⟨W2.heap.size, 0, none⟩ x1).setCell ⟨W2.heap.size, 1, none⟩ x2).setCell ⟨W2.heap.size, 2, none⟩ x3 = W3) :
    Upd c (.chan 8 (buf.extract 1 buf.size) false s (r + 1) false) w (((W3.setCell ⟨w.heap.size, 0, none⟩ y1).setCell ⟨w.heap.size, 1, none⟩ y2).setCell ⟨w.heap.size, 2, none⟩ y3) := by
  have b2 : Below w.heap.size W2 (((W3.setCell ⟨w.heap.size, 0, none⟩ y1).setCell ⟨w.heap.size, 1, none⟩ y2).setCell ⟨w.heap.size, 2, none⟩ y3) := by
    rw [← h3]
    exact (((((((Below.refl w.heap.size W2).alloc (by omega) _).setCell (p := ⟨W2.heap.size, 0, none⟩) (by show _ ≤ W2.heap.size; omega) _).setCell (p := ⟨W2.heap.size, 1, none⟩) (by show _ ≤ W2.heap.size; omega) _).setCell (p := ⟨W2.heap.size, 2, none⟩) (by show _ ≤ W2.heap.size; omega) _).setCell (p := ⟨w.heap.size, 0, none⟩) (Nat.le_refl _) _).setCell (p := ⟨w.heap.size, 1, none⟩) (Nat.le_refl _) _).setCell (p := ⟨w.heap.size, 2, none⟩) (Nat.le_refl _) _
  have old : ∀ k, k < w.heap.size → k ≠ c → W2.heap[k]? = w.heap[k]? := fun k hk hne => by
    rw [← h2]
    show (Array.setIfInBounds _ _ _)[_]? = _
    rw [Array.getElem?_setIfInBounds_ne (fun e => hne e.symm)]
    exact Below.heap_alloc _ _ _ hk
  refine ⟨b2.os.trans (by rw [← h2]; rfl), b2.tape.trans (by rw [← h2]; rfl), b2.output.trans (by rw [← h2]; rfl), ?_, fun k hk hne => (b2.block k hk).trans (old k hk hne), ?_⟩
  · have := b2.size; omega
  · rw [b2.block c hc, ← h2]
    exact heap_setChan _ _ _ _ _ _ _ _ (by simp; omega)

set_option maxRecDepth 100000 in
theorem take_u (p cu co : Nat) (s1 s2 : ByteArray) (b0 : Bool) (w : World) (buf : Array Value) (s r s' r' : Nat) (hlt : p < w.heap.size) (g0 : w.cell? ⟨p, 0, none⟩ = some (.chan (some cu))) (g1 : w.cell? ⟨p, 1, none⟩ = some (.chan (some co))) (hcu : w.heap[cu]? = some (.chan 8 buf false s r false)) (hb : buf.getD 0 undef = .agg #[.string s1, .string s2, .bool b0]) (hs : 0 < buf.size) :
    Calls Try.prog 10 #[.pointer (some ⟨p, 0, none⟩)] w fun e w' => e = .returned (.tuple #[.agg #[.string s1, .string s2, .bool b0], .bool true]) ∧ Upd cu (.chan 8 (buf.extract 1 buf.size) false s (r + 1) false) w w' := by
  refine calls_of_loneTo fun cs => ?_
  have e0 : Frame.enter Try.prog 10 #[.pointer (some ⟨p, 0, none⟩)] .normal = (base 10).at ⟨#[.pointer (some ⟨p, 0, none⟩), undef, undef, undef, undef, undef, undef, undef, undef, undef, undef, undef, undef, undef, undef, undef, undef, undef, undef, undef, undef, undef, undef, undef, undef], []⟩ [.code (Try.f10.body.getD .skip)] := by
    simp [Frame.enter, Frame.at, Try.func10, base, Try.f10]
  rw [e0]
  clear e0
  have hltu : cu < w.heap.size := (Array.getElem?_eq_some_iff.1 hcu).1
  have c0 : (w.alloc (.cells #[.string ⟨#[]⟩, .string ⟨#[]⟩, .bool false] 28)).cell? ⟨p, 0, none⟩ = some (.chan (some cu)) := (old_cell hlt _ _).trans g0
  have c1 : (w.alloc (.cells #[.string ⟨#[]⟩, .string ⟨#[]⟩, .bool false] 28)).cell? ⟨p, 1, none⟩ = some (.chan (some co)) := (old_cell hlt _ _).trans g1
  have hcub : (w.alloc (.cells #[.string ⟨#[]⟩, .string ⟨#[]⟩, .bool false] 28)).heap[cu]? = some (.chan 8 buf false s r false) := (Below.heap_alloc _ _ _ hltu).trans hcu
  clear g0 g1
  refine LoneTo.goes (n := 80) ?_
  simp only [Try.f10, Option.getD_some]
  s_c stepG_seq
  s_reg
  s_op
  s_op
  s_c stepG_region_end
  s_c stepG_seq
  s_c stepG_seq
  s_reg
  s_op
  s_op
  s_op
  s_op
  s_c stepG_region_end
  s_c stepG_seq
  s_reg
  s_stop
  refine LoneTo.step (step_lone_sel_recv_buf (k := 0) (c := cu) (z := zv) (cap := 8) (buf := buf) (closed := false) (s := s) (r := r) (tm := false)
    (stepG_comm (cases := #[rcase cu zv]) (blocking := false) (shape := .select) (w' := (w.alloc (.cells #[.string ⟨#[]⟩, .string ⟨#[]⟩, .bool false] 28))) rfl rfl (by decide) (by simp [go_sem, execOp, rcase, Act.eval, zv]))
    rfl (fun m c' hm hc' => ?_) hcub hs) ?_
  · rcases m with _ | m
    · exact absurd rfl hm
    · simp at hc'
  obtain ⟨W2, hW2⟩ : ∃ W2, (w.alloc (.cells #[.string ⟨#[]⟩, .string ⟨#[]⟩, .bool false] 28)).setChan cu 8 (buf.extract 1 buf.size) false s (r + 1) false = W2 := ⟨_, rfl⟩
  have hsz : Hid (W2.heap.size = w.heap.size + 1) := by show W2.heap.size = _; rw [← hW2, size_setChan]; simp
  have hre : W2.heap[w.heap.size]? = some (.cells #[.string ⟨#[]⟩, .string ⟨#[]⟩, .bool false] 28) := by
    rw [← hW2, World.setChan]
    show (Array.setIfInBounds _ _ _)[_]? = _
    rw [Array.getElem?_setIfInBounds_ne (by omega)]
    exact heap_alloc_new w _
  rw [Frame.finish_at, res_r, hb, hW2]
  have H2 : Hid ((w.alloc (.cells #[.string ⟨#[]⟩, .string ⟨#[]⟩, .bool false] 28)).setChan cu 8 (buf.extract 1 buf.size) false s (r + 1) false = W2) := hW2
  clear hW2
  walk_nrm
  refine LoneTo.goes (n := 60) ?_
  s_op
  s_op
  s_c stepG_region_end
  s_c stepG_block
  s_cond true
  s_c stepG_seq
  s_reg
  s_op
  s_op
  s_op
  s_c stepG_region_end
  s_c stepG_seq
  s_reg
  s_op
  s_stop
  have hne : w.heap.size ≠ W2.heap.size := by have := hsz.out; omega
  obtain ⟨W3, hW3⟩ : ∃ W3, (((W2.alloc (.cells #[.string ⟨#[]⟩, .string ⟨#[]⟩, .bool false] 28)).setCell ⟨W2.heap.size, 0, none⟩ (.string s1)).setCell ⟨W2.heap.size, 1, none⟩ (.string s2)).setCell ⟨W2.heap.size, 2, none⟩ (.bool b0) = W3 := ⟨_, rfl⟩
  have h3 : W3.heap[w.heap.size]? = some (.cells #[.string ⟨#[]⟩, .string ⟨#[]⟩, .bool false] 28) := by
    rw [← hW3, Below.heap_setCell _ _ _ _ hne, Below.heap_setCell _ _ _ _ hne, Below.heap_setCell _ _ _ _ hne, Below.heap_alloc _ _ _ (by have := hsz.out; omega)]
    exact hre
  have d0 : W3.cell? ⟨w.heap.size, 0, none⟩ = some (.string ⟨#[]⟩) := by simp [World.cell?, h3]
  have d1 : W3.cell? ⟨w.heap.size, 1, none⟩ = some (.string ⟨#[]⟩) := by simp [World.cell?, h3]
  have d2 : W3.cell? ⟨w.heap.size, 2, none⟩ = some (.bool false) := by simp [World.cell?, h3]
  have f0 : W3.frozen? ⟨w.heap.size, 0, none⟩ = false := by simp [World.frozen?, h3]
  have f1 : W3.frozen? ⟨w.heap.size, 1, none⟩ = false := by simp [World.frozen?, h3]
  have f2 : W3.frozen? ⟨w.heap.size, 2, none⟩ = false := by simp [World.frozen?, h3]
  rw [hW3]
  have H3 : Hid ((((W2.alloc (.cells #[.string ⟨#[]⟩, .string ⟨#[]⟩, .bool false] 28)).setCell ⟨W2.heap.size, 0, none⟩ (.string s1)).setCell ⟨W2.heap.size, 1, none⟩ (.string s2)).setCell ⟨W2.heap.size, 2, none⟩ (.bool b0) = W3) := hW3
  clear hW3 hne h3
  refine LoneTo.goes (n := 20) ?_
  s_op
  s_op
  s_c stepG_region_end
  s_c stepG_ret'
  s_stop
  refine LoneTo.done ⟨.returned (.tuple #[.agg #[.string s1, .string s2, .bool b0], .bool true]), _, rfl, ⟨rfl, ?_⟩, rfl, rfl, rfl, rfl, _, Try.func10, ?_⟩
  · refine upd_end ?_ H2.out hsz.out H3.out
    assumption
  · obtain ⟨W4, hW4⟩ : ∃ W4, ((W3.setCell ⟨w.heap.size, 0, none⟩ (.string s1)).setCell ⟨w.heap.size, 1, none⟩ (.string s2)).setCell ⟨w.heap.size, 2, none⟩ (.bool b0) = W4 := ⟨_, rfl⟩
    have e0 : W4.cell? ⟨w.heap.size, 0, none⟩ = some (.string s1) := by rw [← hW4]; simp [go_sem, d0]
    have e1 : W4.cell? ⟨w.heap.size, 1, none⟩ = some (.string s2) := by rw [← hW4]; simp [go_sem, d1]
    have e2 : W4.cell? ⟨w.heap.size, 2, none⟩ = some (.bool b0) := by rw [← hW4]; simp [go_sem, d2]
    rw [hW4]
    simp [results, Try.f10, Frame.at, go_sem, e0, e1, e2]

set_option maxRecDepth 100000 in
theorem take_o (p cu co : Nat) (s1 s2 : ByteArray) (b0 : Bool) (w : World) (buf : Array Value) (s r s' r' : Nat) (hlt : p < w.heap.size) (g0 : w.cell? ⟨p, 0, none⟩ = some (.chan (some cu))) (g1 : w.cell? ⟨p, 1, none⟩ = some (.chan (some co))) (hcu : w.heap[cu]? = some (.chan 8 #[] false s' r' false)) (hco : w.heap[co]? = some (.chan 8 buf false s r false)) (hb : buf.getD 0 undef = .agg #[.string s1, .string s2, .bool b0]) (hs : 0 < buf.size) :
    Calls Try.prog 10 #[.pointer (some ⟨p, 0, none⟩)] w fun e w' => e = .returned (.tuple #[.agg #[.string s1, .string s2, .bool b0], .bool true]) ∧ Upd co (.chan 8 (buf.extract 1 buf.size) false s (r + 1) false) w w' := by
  refine calls_of_loneTo fun cs => ?_
  have e0 : Frame.enter Try.prog 10 #[.pointer (some ⟨p, 0, none⟩)] .normal = (base 10).at ⟨#[.pointer (some ⟨p, 0, none⟩), undef, undef, undef, undef, undef, undef, undef, undef, undef, undef, undef, undef, undef, undef, undef, undef, undef, undef, undef, undef, undef, undef, undef, undef], []⟩ [.code (Try.f10.body.getD .skip)] := by
    simp [Frame.enter, Frame.at, Try.func10, base, Try.f10]
  rw [e0]
  clear e0
  have hltu : cu < w.heap.size := (Array.getElem?_eq_some_iff.1 hcu).1
  have c0 : (w.alloc (.cells #[.string ⟨#[]⟩, .string ⟨#[]⟩, .bool false] 28)).cell? ⟨p, 0, none⟩ = some (.chan (some cu)) := (old_cell hlt _ _).trans g0
  have c1 : (w.alloc (.cells #[.string ⟨#[]⟩, .string ⟨#[]⟩, .bool false] 28)).cell? ⟨p, 1, none⟩ = some (.chan (some co)) := (old_cell hlt _ _).trans g1
  have hcub : (w.alloc (.cells #[.string ⟨#[]⟩, .string ⟨#[]⟩, .bool false] 28)).heap[cu]? = some (.chan 8 #[] false s' r' false) := (Below.heap_alloc _ _ _ hltu).trans hcu
  have hlto : co < w.heap.size := (Array.getElem?_eq_some_iff.1 hco).1
  have hcob : (w.alloc (.cells #[.string ⟨#[]⟩, .string ⟨#[]⟩, .bool false] 28)).heap[co]? = some (.chan 8 buf false s r false) := (Below.heap_alloc _ _ _ hlto).trans hco
  clear g0 g1
  refine LoneTo.goes (n := 80) ?_
  simp only [Try.f10, Option.getD_some]
  s_c stepG_seq
  s_reg
  s_op
  s_op
  s_c stepG_region_end
  s_c stepG_seq
  s_c stepG_seq
  s_reg
  s_op
  s_op
  s_op
  s_op
  s_c stepG_region_end
  s_c stepG_seq
  s_reg
  s_stop
  refine LoneTo.step (step_lone_sel_default
    (stepG_comm (cases := #[rcase cu zv]) (blocking := false) (shape := .select) (w' := (w.alloc (.cells #[.string ⟨#[]⟩, .string ⟨#[]⟩, .bool false] 28))) rfl rfl (by decide) (by simp [go_sem, execOp, rcase, Act.eval, zv]))
    (fun cc hcc => ?_)) ?_
  · simp only [List.mem_toArray, List.mem_cons, List.not_mem_nil, or_false] at hcc
    subst hcc
    exact noWay_recv hcub
  rw [Frame.finish_at, res_rd]
  walk_nrm
  refine LoneTo.goes (n := 60) ?_
  s_op
  s_op
  s_c stepG_region_end
  s_c stepG_block
  s_cond false
  s_c stepG_skip
  s_c stepG_inBlock
  s_c stepG_seq
  s_reg
  s_op
  s_op
  s_op
  s_op
  s_c stepG_region_end
  s_c stepG_seq
  s_reg
  s_stop
  refine LoneTo.step (step_lone_sel_recv_buf (k := 0) (c := co) (z := zv) (cap := 8) (buf := buf) (closed := false) (s := s) (r := r) (tm := false)
    (stepG_comm (cases := #[rcase co zv]) (blocking := false) (shape := .select) (w' := (w.alloc (.cells #[.string ⟨#[]⟩, .string ⟨#[]⟩, .bool false] 28))) rfl rfl (by decide) (by simp [go_sem, execOp, rcase, Act.eval, zv]))
    rfl (fun m c' hm hc' => ?_) hcob hs) ?_
  · rcases m with _ | m
    · exact absurd rfl hm
    · simp at hc'
  obtain ⟨W2, hW2⟩ : ∃ W2, (w.alloc (.cells #[.string ⟨#[]⟩, .string ⟨#[]⟩, .bool false] 28)).setChan co 8 (buf.extract 1 buf.size) false s (r + 1) false = W2 := ⟨_, rfl⟩
  have hsz : Hid (W2.heap.size = w.heap.size + 1) := by show W2.heap.size = _; rw [← hW2, size_setChan]; simp
  have hre : W2.heap[w.heap.size]? = some (.cells #[.string ⟨#[]⟩, .string ⟨#[]⟩, .bool false] 28) := by
    rw [← hW2, World.setChan]
    show (Array.setIfInBounds _ _ _)[_]? = _
    rw [Array.getElem?_setIfInBounds_ne (by omega)]
    exact heap_alloc_new w _
  rw [Frame.finish_at, res_r, hb, hW2]
  have H2 : Hid ((w.alloc (.cells #[.string ⟨#[]⟩, .string ⟨#[]⟩, .bool false] 28)).setChan co 8 (buf.extract 1 buf.size) false s (r + 1) false = W2) := hW2
  clear hW2
  walk_nrm
  refine LoneTo.goes (n := 60) ?_
  s_op
  s_op
  s_c stepG_region_end
  s_c stepG_block
  s_cond true
  s_c stepG_seq
  s_reg
  s_op
  s_op
  s_op
  s_c stepG_region_end
  s_c stepG_seq
  s_reg
  s_op
  s_stop
  have hne : w.heap.size ≠ W2.heap.size := by have := hsz.out; omega
  obtain ⟨W3, hW3⟩ : ∃ W3, (((W2.alloc (.cells #[.string ⟨#[]⟩, .string ⟨#[]⟩, .bool false] 28)).setCell ⟨W2.heap.size, 0, none⟩ (.string s1)).setCell ⟨W2.heap.size, 1, none⟩ (.string s2)).setCell ⟨W2.heap.size, 2, none⟩ (.bool b0) = W3 := ⟨_, rfl⟩
  have h3 : W3.heap[w.heap.size]? = some (.cells #[.string ⟨#[]⟩, .string ⟨#[]⟩, .bool false] 28) := by
    rw [← hW3, Below.heap_setCell _ _ _ _ hne, Below.heap_setCell _ _ _ _ hne, Below.heap_setCell _ _ _ _ hne, Below.heap_alloc _ _ _ (by have := hsz.out; omega)]
    exact hre
  have d0 : W3.cell? ⟨w.heap.size, 0, none⟩ = some (.string ⟨#[]⟩) := by simp [World.cell?, h3]
  have d1 : W3.cell? ⟨w.heap.size, 1, none⟩ = some (.string ⟨#[]⟩) := by simp [World.cell?, h3]
  have d2 : W3.cell? ⟨w.heap.size, 2, none⟩ = some (.bool false) := by simp [World.cell?, h3]
  have f0 : W3.frozen? ⟨w.heap.size, 0, none⟩ = false := by simp [World.frozen?, h3]
  have f1 : W3.frozen? ⟨w.heap.size, 1, none⟩ = false := by simp [World.frozen?, h3]
  have f2 : W3.frozen? ⟨w.heap.size, 2, none⟩ = false := by simp [World.frozen?, h3]
  rw [hW3]
  have H3 : Hid ((((W2.alloc (.cells #[.string ⟨#[]⟩, .string ⟨#[]⟩, .bool false] 28)).setCell ⟨W2.heap.size, 0, none⟩ (.string s1)).setCell ⟨W2.heap.size, 1, none⟩ (.string s2)).setCell ⟨W2.heap.size, 2, none⟩ (.bool b0) = W3) := hW3
  clear hW3 hne h3
  refine LoneTo.goes (n := 20) ?_
  s_op
  s_op
  s_c stepG_region_end
  s_c stepG_ret'
  s_stop
  refine LoneTo.done ⟨.returned (.tuple #[.agg #[.string s1, .string s2, .bool b0], .bool true]), _, rfl, ⟨rfl, ?_⟩, rfl, rfl, rfl, rfl, _, Try.func10, ?_⟩
  · refine upd_end ?_ H2.out hsz.out H3.out
    assumption
  · obtain ⟨W4, hW4⟩ : ∃ W4, ((W3.setCell ⟨w.heap.size, 0, none⟩ (.string s1)).setCell ⟨w.heap.size, 1, none⟩ (.string s2)).setCell ⟨w.heap.size, 2, none⟩ (.bool b0) = W4 := ⟨_, rfl⟩
    have e0 : W4.cell? ⟨w.heap.size, 0, none⟩ = some (.string s1) := by rw [← hW4]; simp [go_sem, d0]
    have e1 : W4.cell? ⟨w.heap.size, 1, none⟩ = some (.string s2) := by rw [← hW4]; simp [go_sem, d1]
    have e2 : W4.cell? ⟨w.heap.size, 2, none⟩ = some (.bool b0) := by rw [← hW4]; simp [go_sem, d2]
    rw [hW4]
    simp [results, Try.f10, Frame.at, go_sem, e0, e1, e2]

set_option maxRecDepth 100000 in
theorem take_n (p cu co : Nat) (s1 s2 : ByteArray) (b0 : Bool) (w : World) (buf : Array Value) (s r s' r' : Nat) (hlt : p < w.heap.size) (g0 : w.cell? ⟨p, 0, none⟩ = some (.chan (some cu))) (g1 : w.cell? ⟨p, 1, none⟩ = some (.chan (some co))) (hcu : w.heap[cu]? = some (.chan 8 #[] false s' r' false)) (hco : w.heap[co]? = some (.chan 8 #[] false s r false)) :
    Calls Try.prog 10 #[.pointer (some ⟨p, 0, none⟩)] w fun e w' => e = .returned (.tuple #[zv, .bool false]) ∧ Below w.heap.size w w' := by
  refine calls_of_loneTo fun cs => ?_
  have e0 : Frame.enter Try.prog 10 #[.pointer (some ⟨p, 0, none⟩)] .normal = (base 10).at ⟨#[.pointer (some ⟨p, 0, none⟩), undef, undef, undef, undef, undef, undef, undef, undef, undef, undef, undef, undef, undef, undef, undef, undef, undef, undef, undef, undef, undef, undef, undef, undef], []⟩ [.code (Try.f10.body.getD .skip)] := by
    simp [Frame.enter, Frame.at, Try.func10, base, Try.f10]
  rw [e0]
  clear e0
  have hltu : cu < w.heap.size := (Array.getElem?_eq_some_iff.1 hcu).1
  have c0 : (w.alloc (.cells #[.string ⟨#[]⟩, .string ⟨#[]⟩, .bool false] 28)).cell? ⟨p, 0, none⟩ = some (.chan (some cu)) := (old_cell hlt _ _).trans g0
  have c1 : (w.alloc (.cells #[.string ⟨#[]⟩, .string ⟨#[]⟩, .bool false] 28)).cell? ⟨p, 1, none⟩ = some (.chan (some co)) := (old_cell hlt _ _).trans g1
  have hcub : (w.alloc (.cells #[.string ⟨#[]⟩, .string ⟨#[]⟩, .bool false] 28)).heap[cu]? = some (.chan 8 #[] false s' r' false) := (Below.heap_alloc _ _ _ hltu).trans hcu
  have hlto : co < w.heap.size := (Array.getElem?_eq_some_iff.1 hco).1
  have hcob : (w.alloc (.cells #[.string ⟨#[]⟩, .string ⟨#[]⟩, .bool false] 28)).heap[co]? = some (.chan 8 #[] false s r false) := (Below.heap_alloc _ _ _ hlto).trans hco
  clear g0 g1
  refine LoneTo.goes (n := 80) ?_
  simp only [Try.f10, Option.getD_some]
  s_c stepG_seq
  s_reg
  s_op
  s_op
  s_c stepG_region_end
  s_c stepG_seq
  s_c stepG_seq
  s_reg
  s_op
  s_op
  s_op
  s_op
  s_c stepG_region_end
  s_c stepG_seq
  s_reg
  s_stop
  refine LoneTo.step (step_lone_sel_default
    (stepG_comm (cases := #[rcase cu zv]) (blocking := false) (shape := .select) (w' := (w.alloc (.cells #[.string ⟨#[]⟩, .string ⟨#[]⟩, .bool false] 28))) rfl rfl (by decide) (by simp [go_sem, execOp, rcase, Act.eval, zv]))
    (fun cc hcc => ?_)) ?_
  · simp only [List.mem_toArray, List.mem_cons, List.not_mem_nil, or_false] at hcc
    subst hcc
    exact noWay_recv hcub
  rw [Frame.finish_at, res_rd]
  walk_nrm
  refine LoneTo.goes (n := 60) ?_
  s_op
  s_op
  s_c stepG_region_end
  s_c stepG_block
  s_cond false
  s_c stepG_skip
  s_c stepG_inBlock
  s_c stepG_seq
  s_reg
  s_op
  s_op
  s_op
  s_op
  s_c stepG_region_end
  s_c stepG_seq
  s_reg
  s_stop
  refine LoneTo.step (step_lone_sel_default
    (stepG_comm (cases := #[rcase co zv]) (blocking := false) (shape := .select) (w' := (w.alloc (.cells #[.string ⟨#[]⟩, .string ⟨#[]⟩, .bool false] 28))) rfl rfl (by decide) (by simp [go_sem, execOp, rcase, Act.eval, zv]))
    (fun cc hcc => ?_)) ?_
  · simp only [List.mem_toArray, List.mem_cons, List.not_mem_nil, or_false] at hcc
    subst hcc
    exact noWay_recv hcob
  rw [Frame.finish_at, res_rd]
  walk_nrm
  refine LoneTo.goes (n := 60) ?_
  s_op
  s_op
  s_c stepG_region_end
  s_c stepG_block
  s_cond false
  s_c stepG_seq
  s_reg
  have hbd := fun W => run_build (P := Try.prog) W 28 #[] #[.string ⟨#[]⟩, .string ⟨#[]⟩, .bool false] (by kernel_rfl)
  s_op
  s_op
  s_op
  s_c stepG_region_end
  s_c stepG_ret'
  s_stop
  refine LoneTo.done ⟨.returned (.tuple #[zv, .bool false]), _, rfl, ⟨rfl, ?_⟩, rfl, rfl, rfl, rfl, _, Try.func10, ?_⟩
  · exact ((((Below.refl _ w).alloc (Nat.le_refl _) _).setCell (Nat.le_refl _) _).setCell (Nat.le_refl _) _).setCell (Nat.le_refl _) _
  · simp [results, Try.f10, Frame.at, go_sem, zv]

end Go.EvM.TTray
