/- TPut: (*Tray).Put, at this dump. -/
import Derived.Test.YtmmaicjkkcljhaaChecked
import Derived.Conc.LoneCalls
import Derived.Conc.LoneSelectN
import Derived.KernelRfl
import Derived.Laws.Rows
import Derived.Below
namespace Go.EvM.TTray
open Go.Conc Go.RowKit Go.Proofs
set_option linter.unusedVariables false

theorem old_cell {w : World} {p : Nat} (h : p < w.heap.size) (o : Obj) (j : Nat) : (w.alloc o).cell? ⟨p, j, none⟩ = w.cell? ⟨p, j, none⟩ := by
  simp [World.cell?, Below.heap_alloc _ _ _ h]
theorem res_s (a : Nat) (u z : Value) : commResult #[scase a u z] .select ((0 : Nat) : Int) undef false = .tuple #[goInt 0, .bool false] := by
  simp [commResult, scase, List.zipIdx_cons]
theorem res_sd (a : Nat) (u z : Value) : commResult #[scase a u z] .select (-1) undef false = .tuple #[goInt (-1), .bool false] := by
  simp [commResult, scase, List.zipIdx_cons]
def zv : Value := .agg #[.string ⟨#[]⟩, .string ⟨#[]⟩, .bool false]

set_option maxRecDepth 100000 in
theorem put_closed (p : Nat) (s1 s2 : ByteArray) (u : Bool) (w : World) (hlt : p < w.heap.size) (g2 : w.cell? ⟨p, 2, none⟩ = some (.bool true)) :
    Calls Try.prog 7 #[.pointer (some ⟨p, 0, none⟩), .agg #[.string s1, .string s2, .bool u]] w fun e w' => e = .returned (.int .i64 4) ∧ w' = w.alloc (.cells #[.string s1, .string s2, .bool u] 28) := by
  refine calls_of_loneTo fun cs => ?_
  have e0 : Frame.enter Try.prog 7 #[.pointer (some ⟨p, 0, none⟩), .agg #[.string s1, .string s2, .bool u]] .normal = (base 7).at ⟨#[.pointer (some ⟨p, 0, none⟩), .agg #[.string s1, .string s2, .bool u], undef, undef, undef, undef, undef, undef, undef, undef, undef, undef, undef, undef, undef, undef, undef, undef, undef, undef, undef, undef, undef, undef, undef], []⟩ [.code (Try.f7.body.getD .skip)] := by
    simp [Frame.enter, Frame.at, Try.func7, base, Try.f7]
  rw [e0]
  have hcell : (w.alloc (.cells #[.string s1, .string s2, .bool u] 28)).cell? ⟨p, 2, none⟩ = some (.bool true) := (old_cell hlt _ _).trans g2
  clear g2 hlt e0
  refine LoneTo.goes (n := 40) ?_
  simp only [Try.f7, Option.getD_some]
  s_c stepG_seq
  s_reg
  s_op
  s_op
  s_c stepG_region_end
  s_c stepG_seq
  s_c stepG_seq
  s_reg
  s_op
  s_op
  s_op
  s_op
  s_c stepG_region_end
  s_cond true
  s_c stepG_seq
  s_reg
  s_op
  s_c stepG_region_end
  s_c stepG_ret'
  s_stop
  refine LoneTo.done ⟨.returned (.int .i64 4), _, rfl, ⟨rfl, rfl⟩, rfl, rfl, rfl, rfl, _, Try.func7, by simp [results, Try.f7, Frame.at]⟩

set_option maxRecDepth 100000 in
theorem put_u_room (p cu co : Nat) (s1 s2 : ByteArray) (w : World) (buf : Array Value) (s r : Nat) (hlt : p < w.heap.size) (g0 : w.cell? ⟨p, 0, none⟩ = some (.chan (some cu))) (g1 : w.cell? ⟨p, 1, none⟩ = some (.chan (some co))) (g2 : w.cell? ⟨p, 2, none⟩ = some (.bool false))
    (hc : w.heap[cu]? = some (.chan 8 buf false s r false)) (hroom : buf.size < 8) :
    Calls Try.prog 7 #[.pointer (some ⟨p, 0, none⟩), .agg #[.string s1, .string s2, .bool true]] w fun e w' => e = .returned (.int .i64 0) ∧ w' = (w.alloc (.cells #[.string s1, .string s2, .bool true] 28)).setChan cu 8 (buf.push (.agg #[.string s1, .string s2, .bool true])) false (s + 1) r false := by
  refine calls_of_loneTo fun cs => ?_
  have e0 : Frame.enter Try.prog 7 #[.pointer (some ⟨p, 0, none⟩), .agg #[.string s1, .string s2, .bool true]] .normal = (base 7).at ⟨#[.pointer (some ⟨p, 0, none⟩), .agg #[.string s1, .string s2, .bool true], undef, undef, undef, undef, undef, undef, undef, undef, undef, undef, undef, undef, undef, undef, undef, undef, undef, undef, undef, undef, undef, undef, undef], []⟩ [.code (Try.f7.body.getD .skip)] := by
    simp [Frame.enter, Frame.at, Try.func7, base, Try.f7]
  rw [e0]
  clear e0
  have hltc : cu < w.heap.size := (Array.getElem?_eq_some_iff.1 hc).1
  have c0 : (w.alloc (.cells #[.string s1, .string s2, .bool true] 28)).cell? ⟨p, 0, none⟩ = some (.chan (some cu)) := (old_cell hlt _ _).trans g0
  have c1 : (w.alloc (.cells #[.string s1, .string s2, .bool true] 28)).cell? ⟨p, 1, none⟩ = some (.chan (some co)) := (old_cell hlt _ _).trans g1
  have c2 : (w.alloc (.cells #[.string s1, .string s2, .bool true] 28)).cell? ⟨p, 2, none⟩ = some (.bool false) := (old_cell hlt _ _).trans g2
  have hcb : (w.alloc (.cells #[.string s1, .string s2, .bool true] 28)).heap[cu]? = some (.chan 8 buf false s r false) := (Below.heap_alloc _ _ _ hltc).trans hc
  clear g0 g1 g2 hc hlt hltc
  refine LoneTo.goes (n := 80) ?_
  simp only [Try.f7, Option.getD_some]
  s_c stepG_seq
  s_reg
  s_op
  s_op
  s_c stepG_region_end
  s_c stepG_seq
  s_c stepG_seq
  s_reg
  s_op
  s_op
  s_op
  s_op
  s_c stepG_region_end
  s_cond false
  s_c stepG_skip
  s_c stepG_seq
  s_reg
  s_op
  s_op
  s_op
  s_op
  s_op
  s_c stepG_region_end
  s_c stepG_seq
  s_c stepG_seq
  s_reg
  s_op
  s_op
  s_c stepG_region_end
  s_cond true
  s_reg
  s_op
  s_op
  s_op
  s_op
  s_op
  s_c stepG_region_end
  s_c stepG_seq
  s_c stepG_seq
  s_reg
  s_op
  s_c stepG_region_end
  s_reg
  s_op
  s_c stepG_region_end
  s_c stepG_seq
  s_reg
  s_stop
  refine LoneTo.step (step_lone_sel_send_room (k := 0) (c := cu) (v := .agg #[.string s1, .string s2, .bool true]) (z := zv) (cap := 8) (buf := buf) (s := s) (r := r) (tm := false)
    (stepG_comm (cases := #[scase cu (.agg #[.string s1, .string s2, .bool true]) zv]) (blocking := false) (shape := .select) (w' := (w.alloc (.cells #[.string s1, .string s2, .bool true] 28))) rfl rfl (by decide) (by simp [go_sem, execOp, scase, Act.eval, zv]))
    rfl (fun m c' hm hc' => ?_) hcb hroom) ?_
  · rcases m with _ | m
    · exact absurd rfl hm
    · simp at hc'
  rw [Frame.finish_at, res_s]
  walk_nrm
  refine LoneTo.goes (n := 20) ?_
  s_op
  s_op
  s_c stepG_region_end
  s_c stepG_block
  s_cond true
  s_c stepG_seq
  s_reg
  s_op
  s_c stepG_region_end
  s_c stepG_ret'
  s_stop
  exact LoneTo.done ⟨.returned (.int .i64 0), _, rfl, ⟨rfl, rfl⟩, rfl, rfl, rfl, rfl, _, Try.func7, by simp [results, Try.f7, Frame.at]⟩

set_option maxRecDepth 100000 in
theorem put_u_full (p cu co : Nat) (s1 s2 : ByteArray) (w : World) (buf : Array Value) (s r : Nat) (hlt : p < w.heap.size) (g0 : w.cell? ⟨p, 0, none⟩ = some (.chan (some cu))) (g1 : w.cell? ⟨p, 1, none⟩ = some (.chan (some co))) (g2 : w.cell? ⟨p, 2, none⟩ = some (.bool false))
    (hc : w.heap[cu]? = some (.chan 8 buf false s r false)) (hfull : 8 ≤ buf.size) :
    Calls Try.prog 7 #[.pointer (some ⟨p, 0, none⟩), .agg #[.string s1, .string s2, .bool true]] w fun e w' => e = .returned (.int .i64 6) ∧ w' = (w.alloc (.cells #[.string s1, .string s2, .bool true] 28)) := by
  refine calls_of_loneTo fun cs => ?_
  have e0 : Frame.enter Try.prog 7 #[.pointer (some ⟨p, 0, none⟩), .agg #[.string s1, .string s2, .bool true]] .normal = (base 7).at ⟨#[.pointer (some ⟨p, 0, none⟩), .agg #[.string s1, .string s2, .bool true], undef, undef, undef, undef, undef, undef, undef, undef, undef, undef, undef, undef, undef, undef, undef, undef, undef, undef, undef, undef, undef, undef, undef], []⟩ [.code (Try.f7.body.getD .skip)] := by
    simp [Frame.enter, Frame.at, Try.func7, base, Try.f7]
  rw [e0]
  clear e0
  have hltc : cu < w.heap.size := (Array.getElem?_eq_some_iff.1 hc).1
  have c0 : (w.alloc (.cells #[.string s1, .string s2, .bool true] 28)).cell? ⟨p, 0, none⟩ = some (.chan (some cu)) := (old_cell hlt _ _).trans g0
  have c1 : (w.alloc (.cells #[.string s1, .string s2, .bool true] 28)).cell? ⟨p, 1, none⟩ = some (.chan (some co)) := (old_cell hlt _ _).trans g1
  have c2 : (w.alloc (.cells #[.string s1, .string s2, .bool true] 28)).cell? ⟨p, 2, none⟩ = some (.bool false) := (old_cell hlt _ _).trans g2
  have hcb : (w.alloc (.cells #[.string s1, .string s2, .bool true] 28)).heap[cu]? = some (.chan 8 buf false s r false) := (Below.heap_alloc _ _ _ hltc).trans hc
  clear g0 g1 g2 hc hlt hltc
  refine LoneTo.goes (n := 80) ?_
  simp only [Try.f7, Option.getD_some]
  s_c stepG_seq
  s_reg
  s_op
  s_op
  s_c stepG_region_end
  s_c stepG_seq
  s_c stepG_seq
  s_reg
  s_op
  s_op
  s_op
  s_op
  s_c stepG_region_end
  s_cond false
  s_c stepG_skip
  s_c stepG_seq
  s_reg
  s_op
  s_op
  s_op
  s_op
  s_op
  s_c stepG_region_end
  s_c stepG_seq
  s_c stepG_seq
  s_reg
  s_op
  s_op
  s_c stepG_region_end
  s_cond true
  s_reg
  s_op
  s_op
  s_op
  s_op
  s_op
  s_c stepG_region_end
  s_c stepG_seq
  s_c stepG_seq
  s_reg
  s_op
  s_c stepG_region_end
  s_reg
  s_op
  s_c stepG_region_end
  s_c stepG_seq
  s_reg
  s_stop
  refine LoneTo.step (step_lone_sel_default
    (stepG_comm (cases := #[scase cu (.agg #[.string s1, .string s2, .bool true]) zv]) (blocking := false) (shape := .select) (w' := (w.alloc (.cells #[.string s1, .string s2, .bool true] 28))) rfl rfl (by decide) (by simp [go_sem, execOp, scase, Act.eval, zv]))
    (fun cc hcc => ?_)) ?_
  · simp only [List.mem_toArray, List.mem_cons, List.not_mem_nil, or_false] at hcc
    subst hcc
    exact noWay_send hcb hfull
  rw [Frame.finish_at, res_sd]
  walk_nrm
  refine LoneTo.goes (n := 20) ?_
  s_op
  s_op
  s_c stepG_region_end
  s_c stepG_block
  s_cond false
  s_c stepG_seq
  s_reg
  s_op
  s_c stepG_region_end
  s_c stepG_ret'
  s_stop
  exact LoneTo.done ⟨.returned (.int .i64 6), _, rfl, ⟨rfl, rfl⟩, rfl, rfl, rfl, rfl, _, Try.func7, by simp [results, Try.f7, Frame.at]⟩

set_option maxRecDepth 100000 in
theorem put_o_room (p cu co : Nat) (s1 s2 : ByteArray) (w : World) (buf : Array Value) (s r : Nat) (hlt : p < w.heap.size) (g0 : w.cell? ⟨p, 0, none⟩ = some (.chan (some cu))) (g1 : w.cell? ⟨p, 1, none⟩ = some (.chan (some co))) (g2 : w.cell? ⟨p, 2, none⟩ = some (.bool false))
    (hc : w.heap[co]? = some (.chan 8 buf false s r false)) (hroom : buf.size < 8) :
    Calls Try.prog 7 #[.pointer (some ⟨p, 0, none⟩), .agg #[.string s1, .string s2, .bool false]] w fun e w' => e = .returned (.int .i64 0) ∧ w' = (w.alloc (.cells #[.string s1, .string s2, .bool false] 28)).setChan co 8 (buf.push (.agg #[.string s1, .string s2, .bool false])) false (s + 1) r false := by
  refine calls_of_loneTo fun cs => ?_
  have e0 : Frame.enter Try.prog 7 #[.pointer (some ⟨p, 0, none⟩), .agg #[.string s1, .string s2, .bool false]] .normal = (base 7).at ⟨#[.pointer (some ⟨p, 0, none⟩), .agg #[.string s1, .string s2, .bool false], undef, undef, undef, undef, undef, undef, undef, undef, undef, undef, undef, undef, undef, undef, undef, undef, undef, undef, undef, undef, undef, undef, undef], []⟩ [.code (Try.f7.body.getD .skip)] := by
    simp [Frame.enter, Frame.at, Try.func7, base, Try.f7]
  rw [e0]
  clear e0
  have hltc : co < w.heap.size := (Array.getElem?_eq_some_iff.1 hc).1
  have c0 : (w.alloc (.cells #[.string s1, .string s2, .bool false] 28)).cell? ⟨p, 0, none⟩ = some (.chan (some cu)) := (old_cell hlt _ _).trans g0
  have c1 : (w.alloc (.cells #[.string s1, .string s2, .bool false] 28)).cell? ⟨p, 1, none⟩ = some (.chan (some co)) := (old_cell hlt _ _).trans g1
  have c2 : (w.alloc (.cells #[.string s1, .string s2, .bool false] 28)).cell? ⟨p, 2, none⟩ = some (.bool false) := (old_cell hlt _ _).trans g2
  have hcb : (w.alloc (.cells #[.string s1, .string s2, .bool false] 28)).heap[co]? = some (.chan 8 buf false s r false) := (Below.heap_alloc _ _ _ hltc).trans hc
  clear g0 g1 g2 hc hlt hltc
  refine LoneTo.goes (n := 80) ?_
  simp only [Try.f7, Option.getD_some]
  s_c stepG_seq
  s_reg
  s_op
  s_op
  s_c stepG_region_end
  s_c stepG_seq
  s_c stepG_seq
  s_reg
  s_op
  s_op
  s_op
  s_op
  s_c stepG_region_end
  s_cond false
  s_c stepG_skip
  s_c stepG_seq
  s_reg
  s_op
  s_op
  s_op
  s_op
  s_op
  s_c stepG_region_end
  s_c stepG_seq
  s_c stepG_seq
  s_reg
  s_op
  s_op
  s_c stepG_region_end
  s_cond false
  s_c stepG_skip
  s_c stepG_seq
  s_c stepG_seq
  s_reg
  s_op
  s_c stepG_region_end
  s_reg
  s_op
  s_c stepG_region_end
  s_c stepG_seq
  s_reg
  s_stop
  refine LoneTo.step (step_lone_sel_send_room (k := 0) (c := co) (v := .agg #[.string s1, .string s2, .bool false]) (z := zv) (cap := 8) (buf := buf) (s := s) (r := r) (tm := false)
    (stepG_comm (cases := #[scase co (.agg #[.string s1, .string s2, .bool false]) zv]) (blocking := false) (shape := .select) (w' := (w.alloc (.cells #[.string s1, .string s2, .bool false] 28))) rfl rfl (by decide) (by simp [go_sem, execOp, scase, Act.eval, zv]))
    rfl (fun m c' hm hc' => ?_) hcb hroom) ?_
  · rcases m with _ | m
    · exact absurd rfl hm
    · simp at hc'
  rw [Frame.finish_at, res_s]
  walk_nrm
  refine LoneTo.goes (n := 20) ?_
  s_op
  s_op
  s_c stepG_region_end
  s_c stepG_block
  s_cond true
  s_c stepG_seq
  s_reg
  s_op
  s_c stepG_region_end
  s_c stepG_ret'
  s_stop
  exact LoneTo.done ⟨.returned (.int .i64 0), _, rfl, ⟨rfl, rfl⟩, rfl, rfl, rfl, rfl, _, Try.func7, by simp [results, Try.f7, Frame.at]⟩

set_option maxRecDepth 100000 in
theorem put_o_full (p cu co : Nat) (s1 s2 : ByteArray) (w : World) (buf : Array Value) (s r : Nat) (hlt : p < w.heap.size) (g0 : w.cell? ⟨p, 0, none⟩ = some (.chan (some cu))) (g1 : w.cell? ⟨p, 1, none⟩ = some (.chan (some co))) (g2 : w.cell? ⟨p, 2, none⟩ = some (.bool false))
    (hc : w.heap[co]? = some (.chan 8 buf false s r false)) (hfull : 8 ≤ buf.size) :
    Calls Try.prog 7 #[.pointer (some ⟨p, 0, none⟩), .agg #[.string s1, .string s2, .bool false]] w fun e w' => e = .returned (.int .i64 6) ∧ w' = (w.alloc (.cells #[.string s1, .string s2, .bool false] 28)) := by
  refine calls_of_loneTo fun cs => ?_
  have e0 : Frame.enter Try.prog 7 #[.pointer (some ⟨p, 0, none⟩), .agg #[.string s1, .string s2, .bool false]] .normal = (base 7).at ⟨#[.pointer (some ⟨p, 0, none⟩), .agg #[.string s1, .string s2, .bool false], undef, undef, undef, undef, undef, undef, undef, undef, undef, undef, undef, undef, undef, undef, undef, undef, undef, undef, undef, undef, undef, undef, undef], []⟩ [.code (Try.f7.body.getD .skip)] := by
    simp [Frame.enter, Frame.at, Try.func7, base, Try.f7]
  rw [e0]
  clear e0
  have hltc : co < w.heap.size := (Array.getElem?_eq_some_iff.1 hc).1
  have c0 : (w.alloc (.cells #[.string s1, .string s2, .bool false] 28)).cell? ⟨p, 0, none⟩ = some (.chan (some cu)) := (old_cell hlt _ _).trans g0
  have c1 : (w.alloc (.cells #[.string s1, .string s2, .bool false] 28)).cell? ⟨p, 1, none⟩ = some (.chan (some co)) := (old_cell hlt _ _).trans g1
  have c2 : (w.alloc (.cells #[.string s1, .string s2, .bool false] 28)).cell? ⟨p, 2, none⟩ = some (.bool false) := (old_cell hlt _ _).trans g2
  have hcb : (w.alloc (.cells #[.string s1, .string s2, .bool false] 28)).heap[co]? = some (.chan 8 buf false s r false) := (Below.heap_alloc _ _ _ hltc).trans hc
  clear g0 g1 g2 hc hlt hltc
  refine LoneTo.goes (n := 80) ?_
  simp only [Try.f7, Option.getD_some]
  s_c stepG_seq
  s_reg
  s_op
  s_op
  s_c stepG_region_end
  s_c stepG_seq
  s_c stepG_seq
  s_reg
  s_op
  s_op
  s_op
  s_op
  s_c stepG_region_end
  s_cond false
  s_c stepG_skip
  s_c stepG_seq
  s_reg
  s_op
  s_op
  s_op
  s_op
  s_op
  s_c stepG_region_end
  s_c stepG_seq
  s_c stepG_seq
  s_reg
  s_op
  s_op
  s_c stepG_region_end
  s_cond false
  s_c stepG_skip
  s_c stepG_seq
  s_c stepG_seq
  s_reg
  s_op
  s_c stepG_region_end
  s_reg
  s_op
  s_c stepG_region_end
  s_c stepG_seq
  s_reg
  s_stop
  refine LoneTo.step (step_lone_sel_default
    (stepG_comm (cases := #[scase co (.agg #[.string s1, .string s2, .bool false]) zv]) (blocking := false) (shape := .select) (w' := (w.alloc (.cells #[.string s1, .string s2, .bool false] 28))) rfl rfl (by decide) (by simp [go_sem, execOp, scase, Act.eval, zv]))
    (fun cc hcc => ?_)) ?_
  · simp only [List.mem_toArray, List.mem_cons, List.not_mem_nil, or_false] at hcc
    subst hcc
    exact noWay_send hcb hfull
  rw [Frame.finish_at, res_sd]
  walk_nrm
  refine LoneTo.goes (n := 20) ?_
  s_op
  s_op
  s_c stepG_region_end
  s_c stepG_block
  s_cond false
  s_c stepG_seq
  s_reg
  s_op
  s_c stepG_region_end
  s_c stepG_ret'
  s_stop
  exact LoneTo.done ⟨.returned (.int .i64 6), _, rfl, ⟨rfl, rfl⟩, rfl, rfl, rfl, rfl, _, Try.func7, by simp [results, Try.f7, Frame.at]⟩

end Go.EvM.TTray
