/- copy; bytes and strings; every operation together. -/
import Derived.Test.YtmnpdgldmpjekaaEvOps8
import Derived.Laws.BytesString
namespace Go.EvM
open Go.RowKit
set_option linter.unusedVariables false
variable {P : Program} {cx : Cx} {o : Oper}

theorem ok_copy {t u e : TypeId} {d s : Operand} {i ei : TI} (C : CxOk P cx) (ht : cx.ti t = some i) (hd : i.desc = .slice e) (he : cx.ti e = some ei)
    (ho : o.op = .call { callee := .builtin .copy, args := #[d, s], argTypes := #[t, u] }) : EffOk P o fun ρ h => copyV h ei.size (ρ d) (ρ s) := by
  intro W μ ρ ρ' h w v h' hop R e
  have h1 := mem_ops hop ho (x := d) (by simp [Op.operands, Call.operands])
  have h2 := mem_ops hop ho (x := s) (by simp [Op.operands, Call.operands])
  have hu := C.run_und ht w
  have hsz := C.run_size he w
  dsimp only at e
  have hexec : ∀ {r : Value} {w' : World}, (Builtin.copy_ #[t, u] o.type #[ρ' d, ρ' s]).run P w = .ok r w' → (execOp ρ' o).run P w = .ok (.value r) w' := by
    intro r w' hr
    simp [execOp, ho, resolve, invoke, builtin, hr]
  generalize hr1 : ρ' d = d' at h1 hexec
  generalize hq1 : ρ d = dA at h1 e
  generalize hr2 : ρ' s = s' at h2 hexec
  generalize hq2 : ρ s = sA at h2 e
  unfold copyV at e
  split at e
  · rename_i base dLen dCap m hln
    split at e
    · rename_i l hl
      obtain ⟨l', n1, n2, n3, n4⟩ := firstL_ok (P := P) R h2 hl (fun k hk => by rw [hln] at hk; cases hk; exact Nat.min_le_left _ _)
      have hlenof := lenV_ok (P := P) h2 hln w
      obtain ⟨rb', rcap, rfl⟩ : ∃ rb' rcap, d' = .slice rb' dLen rcap := by cases h1 <;> exact ⟨_, _, rfl⟩
      have hrun : ∀ w', (match rb' with | some a => (storeCells a l').run P w | none => .ok () w) = .ok () w' → (Builtin.copy_ #[t, u] o.type #[.slice rb' dLen rcap, s']).run P w = .ok (.int .i64 (.ofNat (Nat.min m dLen))) w' := by
        intro w' hst
        unfold Builtin.copy_
        simp only [List.getElem?_toArray, List.getElem?_cons_zero, List.getElem?_cons_succ, Sem.run_bind, hu, hd, Result.andThen_ok, hlenof, hsz, n1 w rfl]
        cases rb' with
        | none => simp at hst; subst hst; simp [goInt]
        | some a => simp only [Sem.run_bind, hst, Result.andThen_ok, Sem.run_pure, goInt]; rfl
      split at e
      · cases e
        cases h1
        exact ⟨_, _, w, μ, hexec (hrun w rfl), rfl, .int _ _, R, Ext.refl _ _, Nat.le_refl _⟩
      · rename_i b off
        split at e
        · rename_i h2' hput
          cases e
          cases h1 with
          | slice _ _ _ xx ra hb hlc hor hra =>
            rename_i bi
            obtain ⟨k1, k2, k3⟩ := R.putCells (P := P) hb hput n2 n3
            refine ⟨_, _, w.setCells bi.rb (bi.d + off) l', μ, hexec (hrun _ ?_), rfl, .int _ _, k2, Ext.refl _ _, by rw [k3]; exact Nat.le_refl _⟩
            rcases hra with rfl | ⟨h0, h00⟩
            · exact k1
            · have hz : Nat.min m dLen = 0 := by have := Nat.min_le_right m dLen; show Nat.min m dLen = 0; simp only [Nat.min_def] at *; split <;> omega
              have : l' = [] := by
                have := n2.length
                rw [n4, hz] at this
                exact List.eq_nil_of_length_eq_zero (by simpa using this)
              subst this
              rfl
        · cases e
      · cases e
    · cases e
  · cases e

theorem bytesOf_ok : ∀ {l : List Value} {r : List UInt8}, bytesOf l = some r → ∃ ns : List Int, l = ns.map (Value.int .u8) ∧ r = ns.map fun n => UInt8.ofNat n.toNat
  | [], r, e => by unfold bytesOf at e; cases e; exact ⟨[], rfl, rfl⟩
  | v :: l, r, e => by
    unfold bytesOf at e
    split at e
    · rename_i h; cases h
    · rename_i n l' heq
      cases heq
      split at e
      · rename_i r' hr
        cases e
        obtain ⟨ns, h1, h2⟩ := bytesOf_ok hr
        exact ⟨n :: ns, by simp [h1], by simp [h2]⟩
      · cases e
    · cases e

theorem fold_push : ∀ (ns : List Int) (s : ByteArray), (ns.foldl (fun r n => r.push (UInt8.ofNat n.toNat)) s) = ⟨⟨s.data.toList ++ ns.map fun n => UInt8.ofNat n.toNat⟩⟩
  | [], s => by simp
  | n :: ns, s => by
    rw [List.foldl_cons, fold_push ns]
    simp [ByteArray.push]

theorem ok_convBS {a b e : TypeId} {x : Operand} {si di ei : TI} (C : CxOk P cx) (hs : cx.ti a = some si) (hd : cx.ti b = some di) (h1 : si.desc = .slice e) (h2 : di.desc = .string) (he : cx.ti e = some ei) (h3 : ei.desc = .int .u8) (ho : o.op = .convert a b x) :
    LookOk P o fun ρ h => match ρ x with
          | .slice none _ _ => some (.string .empty)
          | .slice (some ⟨b, off, none⟩) len _ => (match h.b.get b with
            | some (.cells c _ _ _ _) => (match c.getL len off with
              | some l => (match bytesOf l with | some r => some (.string ⟨⟨r⟩⟩) | none => none)
              | none => none)
            | _ => none)
          | _ => none := by
  intro W μ ρ ρ' h w v hop R e
  have hc := mem_ops hop ho (x := x) (by simp [Op.operands])
  have u1 := C.run_und hs w
  have u2 := C.run_und hd w
  have u3 := C.run_und he w
  dsimp only at e
  generalize hr : ρ' x = r at hc
  generalize hq : ρ x = q at hc e
  have hexec : ∀ {z : Value}, (Conv.bytesToString r).run P w = .ok z w → (∃ a l c, r = .slice a l c) → (execOp ρ' o).run P w = .ok (.value z) w := by
    rintro z hz ⟨p, l, c, rfl⟩
    simp [execOp, ho, hr, convert, u1, u2, u3, h1, h2, h3, hz]
  split at e
  · cases e; cases hc
    exact ⟨.string .empty, hexec (by simp [Conv.bytesToString]) ⟨_, _, _, rfl⟩, .string _⟩
  · rename_i b off len cap
    split at e
    · rename_i c n z ti ro hob
      split at e
      · rename_i l hl
        split at e
        · rename_i rr hrr
          cases e
          obtain ⟨ns, g1, g2⟩ := bytesOf_ok hrr
          cases hc with
          | slice _ _ _ xx ra hb hlc hor hra =>
            rename_i bi
            have hstr : ∀ (w : World), (ns.foldl (fun r n => r.push (UInt8.ofNat n.toNat)) ByteArray.empty) = ⟨⟨rr⟩⟩ := by
              intro _; rw [fold_push, g2]; simp
            refine ⟨.string ⟨⟨rr⟩⟩, ?_, .string _⟩
            refine hexec ?_ ⟨_, _, _, rfl⟩
            rcases hra with rfl | ⟨h0, _⟩
            · obtain ⟨l', q1, q2, q3, q4⟩ := R.run_loadCells (P := P) hb hob hl
              have hl' : l' = ns.map (Value.int .u8) := by
                rw [g1] at q1
                clear g1 g2 hstr q4 q3 q2
                induction ns generalizing l' with
                | nil => cases q1; rfl
                | cons n ns ih => cases q1 with
                  | cons hv ht => cases hv; rw [ih _ ht]; rfl
              rw [hl'] at q4
              rw [run_bytesToString w _ len _ ns q4, hstr w]
            · have hl0 : len = 0 := by omega
              subst hl0
              rw [Tr.getL_zero] at hl; cases hl
              have hns : ns = [] := by cases ns with | nil => rfl | cons _ _ => simp at g1
              subst hns
              have := run_bytesToString (P := P) w ra 0 (cap + xx) [] (by simp [loadCells, loadCellsFrom])
              rw [this, hstr w]
        · cases e
      · cases e
    · cases e
  · cases e

theorem push_modify (a : Array Obj) (x : Obj) (f : Obj → Obj) : (a.push x).modify a.size f = a.push (f x) := by
  apply Array.ext
  · simp
  · intro i h1 h2
    simp at h1
    rw [Array.getElem_modify]
    by_cases hi : i = a.size
    · subst hi; simp
    · have : a.size ≠ i := fun h => hi h.symm
      rw [if_neg this]
      rw [Array.getElem_push_lt (by omega), Array.getElem_push_lt (by omega)]

theorem freeze_new (w : World) (cs : Array Value) (e : TypeId) : ((w.alloc (.cells cs e)).freeze ⟨w.heap.size, cs.size, none⟩ 1).heap = w.heap.push (.cells cs e (cs.size, cs.size + 1)) := by
  unfold World.freeze
  rw [if_neg (by omega)]
  simp only [show (w.alloc (Obj.cells cs e)).heap = w.heap.push (Obj.cells cs e) from rfl]
  rw [push_modify]; simp

theorem ok_convSB {a b e : TypeId} {x : Operand} {si di ei : TI} (C : CxOk P cx) (hs : cx.ti a = some si) (hd : cx.ti b = some di) (h1 : si.desc = .string) (h2 : di.desc = .slice e) (he : cx.ti e = some ei) (h3 : ei.desc = .int .u8) (ho : o.op = .convert a b x) :
    MakeOk P o fun ρ => match ρ x with
          | .string s => some ⟨mkCells (s.data.toList.map fun b => .int .u8 (.ofNat b.toNat)) 1 false, fun r => .slice (some ⟨r, 0, none⟩) s.data.toList.length s.data.toList.length⟩
          | _ => none := by
  intro W μ ρ ρ' h w m hop R em
  have hc := mem_ops hop ho (x := x) (by simp [Op.operands])
  have u1 := C.run_und hs w
  have u2 := C.run_und hd w
  have u3 := C.run_und he w
  dsimp only at em
  split at em
  · rename_i s hq
    cases em
    rw [hq] at hc
    generalize hr : ρ' x = r at hc
    cases hc
    generalize hk : w.tape w.drawn (.appendCap s.size 0 e) % (2 ^ 63 - s.size) = k
    generalize hcs : (s.data.map fun b => Value.int .u8 (b.toNat : Int)) ++ Array.replicate k (Value.int .u8 0) = cs
    have hcsz : cs.size = s.data.toList.length + k := by rw [← hcs]; simp
    refine ⟨.slice (some ⟨w.heap.size, 0, none⟩) s.data.toList.length (s.data.toList.length + k), (w.drew.alloc (.cells cs e)).freeze ⟨w.heap.size, cs.size, none⟩ 1, ⟨w.heap.size, 0, s.data.toList.length, 1, k⟩, ?_, rfl, ?_, ?_, ?_, ?_, ?_⟩
    · have hrun : (Conv.stringToBytes e s).run P w = .ok (.slice (some ⟨w.heap.size, 0, none⟩) s.data.toList.length (s.data.toList.length + k)) ((w.drew.alloc (.cells cs e)).freeze ⟨w.heap.size, cs.size, none⟩ 1) := by
        unfold Conv.stringToBytes
        simp only [Sem.run_bind, run_choose, Question.forced, Bool.false_eq_true, if_false, Result.andThen_ok, Question.cut, World.drew_eq, newRow, run_newObj, World.alloc_eq, Sem.run_pure, hk, Nat.add_sub_cancel_left, hcs, markStringish, run_shape]
        have hsh : (w.drew.alloc (.cells cs e)).shape? w.heap.size = some (e, cs.size) := by
          have := heap_new w.drew (.cells cs e)
          rw [World.size_drew] at this
          unfold World.shape?; rw [this]
        simp only [World.size_drew, hsh, run_freeze, Result.andThen_ok]
        rw [← size_len]
      simp [execOp, ho, hr, convert, u1, u2, u3, h1, h2, h3, hrun]
    · exact ⟨_, freeze_new w.drew cs e⟩
    · unfold World.freeze; rw [if_neg (by omega)]; rfl
    · unfold World.freeze; rw [if_neg (by omega)]; rfl
    · unfold World.freeze; rw [if_neg (by omega)]; rfl
    · intro b hb
      constructor
      · have := VR.slice (μ := μ.set b ⟨w.heap.size, 0, s.data.toList.length, 1, k⟩) (i := ⟨w.heap.size, 0, s.data.toList.length, 1, k⟩) 0 s.data.toList.length s.data.toList.length k ⟨w.heap.size, 0, none⟩ (Mu.set_eq _ _ _) (Nat.le_refl _)
          (.inr ⟨Nat.le_refl _, by simp⟩) (.inl rfl)
        exact this
      · have hheap : ((w.drew.alloc (.cells cs e)).freeze ⟨w.heap.size, cs.size, none⟩ 1).heap[w.heap.size]? = some (.cells cs e (cs.size, cs.size + 1)) := by
          have := freeze_new w.drew cs e
          rw [World.size_drew] at this
          rw [this]
          show (w.heap.push _)[w.heap.size]? = _
          simp
        have hm : mkCells (s.data.toList.map fun b => Value.int .u8 (.ofNat b.toNat)) 1 false = .cells (Tr.ofL (s.data.toList.map fun b => Value.int .u8 (.ofNat b.toNat))) s.data.toList.length 1 false false := by
          unfold mkCells; rw [List.length_map]
        show RelOb _ _ _ _ (mkCells (s.data.toList.map fun b => Value.int .u8 (.ofNat b.toNat)) 1 false)
        rw [hm]
        refine relOb_new (μ := μ) (Mu.le_set hb) R.below.size hheap ?_ ?_ (fun h => by simp at h) (by omega) (fun j hj => by simp only; omega)
        · intro j hj; rw [Tr.get_ofL]; exact List.getElem?_eq_none (by simpa using hj)
        · intro j hj
          have hj2 : j < s.data.size := by simpa using hj
          refine ⟨.int .u8 ((s.data[j]).toNat : Int), .int .u8 ((s.data[j]).toNat : Int), ?_, ?_, .int _ _, rfl⟩
          · rw [Tr.get_ofL, List.getElem?_map, Array.getElem?_toList, Array.getElem?_eq_getElem hj2]; rfl
          · rw [← hcs, Array.getElem?_append_left (by simpa using hj2), Array.getElem?_map, Array.getElem?_eq_getElem hj2]; rfl
  · cases em
end Go.EvM
