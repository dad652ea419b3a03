/- OpsU: what strings.Builder asks of pointers: unsafe ones, '==', unsafe.SliceData, unsafe.String. -/
import Derived.Test.YtmmaicjkkcljhaaEvOpsE
import Derived.Lib.UnsafeStr
namespace Go.EvM
set_option linter.unusedSectionVars false
variable [GLs]
open Go.RowKit
set_option linter.unusedVariables false
variable {P : Program} {cx : Cx} {o : Oper}

theorem ok_eqPtr (C : CxOk P cx) {ne : Bool} {t u : TypeId} {x y : Operand} {i : TI} (ht : cx.ti t = some i) (hp : ptrTo cx i.desc = true) (ho : o.op = .binOp (eqOp ne) t x y u) :
    PureOk P o fun ρ => eqPtr i.desc ne (ρ x) (ρ y) := by
  intro μ ρ ρ' w v hop e
  have h1 := mem_ops hop ho (x := x) (by simp [Op.operands])
  have h2 := mem_ops hop ho (x := y) (by simp [Op.operands])
  have hgen := ok_eq (P := P) C ht ho μ ρ ρ' w v hop
  have e : eqPtr i.desc ne (ρ x) (ρ y) = some v := e
  unfold eqPtr at e
  split at e
  · rename_i b p c q ex ey
    split at e
    · rename_i hbc
      cases e
      have hbc := Nat.eq_of_beq_eq_true hbc
      subst hbc
      rw [ex] at h1; rw [ey] at h2
      generalize hX : ρ' x = X at h1
      generalize hY : ρ' y = Y at h2
      cases h1 with
      | ptr _ m1 =>
        cases h2 with
        | ptr _ m2 =>
          rw [m1] at m2; cases m2
          rename_i bi
          obtain ⟨_, _, _, hu, _⟩ := C.ti t i ht
          unfold ptrTo at hp
          split at hp
          · rename_i el hd
            split at hp
            · rename_i ei hei
              have hsz := blt_lt hp
              have hs := C.run_size hei w
              have hb : ((⟨bi.rb, bi.d + p, none⟩ : Addr) == ⟨bi.rb, bi.d + q, none⟩) = Nat.beq p q := by
                rw [Bool.eq_iff_iff]
                simp [Nat.beq_eq]
              have hun : (underlying t).run P w = .ok (.pointer el) w := by simp [underlying, hu, hd]
              have hne : ¬ ei.size = 0 := by omega
              have hsame : (sameAddr ⟨bi.rb, bi.d + p, none⟩ ⟨bi.rb, bi.d + q, none⟩).run P w = .ok (Nat.beq p q) w := by
                unfold sameAddr
                simp only [beq_self_eq_true, if_true]
                rw [hb]
                rfl
              have hall : ∀ n, (Op.equalIn (n + 1) t (.pointer (some ⟨bi.rb, bi.d + p, none⟩)) (.pointer (some ⟨bi.rb, bi.d + q, none⟩))).run P w = .ok (Nat.beq p q) w := by
                intro n
                simp only [Op.equalIn, Sem.run_bind, hun, Result.andThen_ok, hs]
                rw [if_pos hne]
                exact hsame
              have he : (Op.equal t (.pointer (some ⟨bi.rb, bi.d + p, none⟩)) (.pointer (some ⟨bi.rb, bi.d + q, none⟩))).run P w = .ok (Nat.beq p q) w := hall 9999
              have hg : ∀ op, eqGuard op t x y (.pointer (some ⟨bi.rb, bi.d + p, none⟩)) (.pointer (some ⟨bi.rb, bi.d + q, none⟩)) = pure () := by
                intro op; cases op <;> rfl
              have hbin : (binOp (eqOp ne) t (.pointer (some ⟨bi.rb, bi.d + p, none⟩)) (.pointer (some ⟨bi.rb, bi.d + q, none⟩))).run P w = .ok (.bool (turn ne (Nat.beq p q))) w := by
                cases ne <;> simp [binOp, eqOp, turn, he]
              refine ⟨_, ?_, .bool _⟩
              unfold execOp; rw [ho]; dsimp only; rw [hX, hY]
              exact run_v (by simp only [hg, pure_bind, hbin])
            · cases hp
          · cases hp
    · cases e
  · exact hgen e

theorem shape_cells {w : World} {r : Nat} {cs : Array Value} {e : TypeId} {fz : Nat × Nat} (h : w.heap[r]? = some (.cells cs e fz)) : w.shape? r = some (e, cs.size) := by
  simp [World.shape?, h]

theorem run_seenAt {w : World} {a : Addr} {cs : Array Value} {e : TypeId} {fz : Nat × Nat} (h : w.heap[a.block]? = some (.cells cs e fz)) : (Conv.seenAt a).run P w = .ok a w := by
  simp [Conv.seenAt, viewAt, shape_cells h]

theorem ok_toUns (C : CxOk P cx) {a b t : TypeId} {x : Operand} {si di i : TI} (hs : cx.ti a = some si) (hd : cx.ti b = some di) (h1 : si.desc = .pointer t) (h2 : di.desc = .unsafePointer) (hi : cx.ti t = some i) (hz : Nat.blt 0 i.size = true) (ho : o.op = .convert a b x) :
    LookOk P o fun ρ h => toUns h (ρ x) := by
  intro W μ ρ ρ' h w v hop R e
  have hc := mem_ops hop ho (x := x) (by simp [Op.operands])
  have u1 := C.run_und hs w
  have u2 := C.run_und hd w
  rw [h1] at u1; rw [h2] at u2
  have hsz := C.run_size hi w
  have hz := blt_lt hz
  have e : toUns h (ρ x) = some v := e
  unfold toUns at e
  split at e
  · rename_i hq
    cases e
    rw [hq] at hc
    generalize hr : ρ' x = r at hc
    cases hc
    exact ⟨_, by simp [execOp, ho, hr, convert, u1, u2, Conv.unsafePointer], .nilp⟩
  · rename_i bb off hq
    split at e
    · rename_i c n z ti ro hob
      split at e
      · rename_i hlt
        cases e
        have hlt := blt_lt hlt
        rw [hq] at hc
        generalize hr : ρ' x = r at hc
        cases hc with
        | ptr _ hm =>
          rename_i bi
          obtain ⟨cs, et, fz, r1, r2, r3, r4, r5, _⟩ := R.ob bb bi _ hm hob
          have hsh := shape_cells r1
          have hseen := run_seenAt (P := P) (a := ⟨bi.rb, bi.d + off, none⟩) r1
          have hnot : ¬ (bi.d + off ≥ cs.size) := by omega
          have hne : ¬ i.size = 0 := by omega
          refine ⟨.pointer (some ⟨bi.rb, bi.d + off, none⟩), ?_, .ptr off hm⟩
          have hcells : (cellsIn bi.rb).run P w = .ok (some cs.size) w := by simp [cellsIn, hsh]
          simp [execOp, ho, hr, convert, u1, u2, Conv.unsafePointer, hseen, hcells, hsz, hne, hnot]
      · cases e
    · cases e
  · cases e

theorem ok_ofUns (C : CxOk P cx) {a b u : TypeId} {x : Operand} {si di i : TI} (hs : cx.ti a = some si) (hd : cx.ti b = some di) (h1 : si.desc = .unsafePointer) (h2 : di.desc = .pointer u) (hi : cx.ti u = some i) (hz : Nat.blt 0 i.size = true) (ho : o.op = .convert a b x) :
    LookOk P o fun ρ h => ofUns cx u h (ρ x) := by
  intro W μ ρ ρ' h w v hop R e
  have hc := mem_ops hop ho (x := x) (by simp [Op.operands])
  have u1 := C.run_und hs w
  have u2 := C.run_und hd w
  rw [h1] at u1; rw [h2] at u2
  have hsz := C.run_size hi w
  have hz := blt_lt hz
  have e : ofUns cx u h (ρ x) = some v := e
  unfold ofUns at e
  split at e
  · rename_i hq
    cases e
    rw [hq] at hc
    generalize hr : ρ' x = r at hc
    cases hc
    exact ⟨_, by simp [execOp, ho, hr, convert, u1, u2, Conv.unsafePointer], .nilp⟩
  · rename_i bb off hq
    split at e
    · rename_i c n z ro hob
      split at e
      · rename_i el hel
        split at e
        · rename_i hlies
          cases e
          rw [hq] at hc
          generalize hr : ρ' x = r at hc
          cases hc with
          | ptr _ hm =>
            rename_i bi
            obtain ⟨cs, et, fz, r1, r2, r3, r4, r5, _⟩ := R.ob bb bi _ hm hob
            have hsh := shape_cells r1
            have hseen := run_seenAt (P := P) (a := ⟨bi.rb, bi.d + off, none⟩) r1
            have hne : ¬ i.size = 0 := by omega
            obtain ⟨q1, q2⟩ := r2.2 el hel
            have q2 := q2 rfl
            have hd0 := (r4 rfl).2
            have hl := C.lies el n off u hlies
            have hl2 : liesAt P P.depth et (cs.size / P.cellsOf et) (bi.d + off) u 1 = true := by rw [q1, q2, hd0, Nat.zero_add]; exact hl
            have hva : (variablesAt ⟨bi.rb, bi.d + off, none⟩ u 1).run P w = .ok true w := by simp [variablesAt, hsh, hl2]
            refine ⟨.pointer (some ⟨bi.rb, bi.d + off, none⟩), ?_, .ptr off hm⟩
            simp [execOp, ho, hr, convert, u1, u2, Conv.unsafePointer, hseen, hsz, hne, hva]
        · cases e
      · cases e
    · cases e
  · cases e

theorem ok_sliceData {x : Operand} {ts : Array TypeId} (ho : o.op = .call { callee := .builtin .unsafeSliceData, args := #[x], argTypes := ts }) :
    PureOk P o fun ρ => match ρ x with
      | .slice none _ _ => some (.pointer none)
      | .slice (some a) _ (Nat.succ _) => some (.pointer (some a))
      | _ => none := by
  intro μ ρ ρ' w v hop e
  have hc := mem_ops hop ho (x := x) (by simp [Op.operands, Call.operands])
  dsimp only at e
  split at e
  · rename_i hq
    cases e
    rw [hq] at hc
    generalize hr : ρ' x = r at hc
    cases hc
    exact ⟨_, by simp [execOp, ho, hr, resolve, invoke, builtin, Lib.run_unsafeSliceData_nil], .nilp⟩
  · rename_i a l c hq
    cases e
    rw [hq] at hc
    generalize hr : ρ' x = r at hc
    cases hc with
    | slice off _ _ xx ra hm hle hor hra =>
      rename_i bi
      obtain rfl := hra.resolve_right (fun h => by cases h.1)
      refine ⟨_, ?_, .ptr off hm⟩
      have := Lib.run_unsafeSliceData_row (P := P) w ts o.type ⟨bi.rb, bi.d + off, none⟩ l (c + 1 + xx) (by omega)
      simp [execOp, ho, hr, resolve, invoke, builtin, this]
  · cases e

/-- In a row of elements of one cell, n of them lie side by side anywhere. -/
theorem lies_at {e : TypeId} (hc : P.cellsOf e = 1) (count off n : Nat) (hn : off + n ≤ count) : liesAt P P.depth e count off e n = true := by
  have hd : P.depth = (2 * (P.types.size + Made.depth) + 1) + 1 := rfl
  rw [hd]
  simp only [liesAt, Bool.or_eq_true]
  left
  rw [hd]
  simp [rowAt, hc, hn, sameLayout, Nat.mod_one]

theorem run_loadInts (w : World) : ∀ (ns : List Int) (a : Addr) (acc : ByteArray), (∀ j n, ns[j]? = some n → w.cell? (a.add j) = some (.int .u8 n)) →
    (loadBytes a acc ns.length).run P w = .ok ⟨acc.data ++ (ns.map fun n => UInt8.ofNat n.toNat).toArray⟩ w
  | [], a, acc, _ => by simp [loadBytes]
  | x :: l, a, acc, h => by
    have h0 : w.cell? a = some (.int .u8 x) := by
      have := h 0 x rfl
      simpa [Addr.add] using this
    have ih := run_loadInts w l (a.add 1) (acc.push x.toNat.toUInt8) (fun j y hy => by
      have := h (j + 1) y (by simpa using hy)
      have e : (a.add 1).add j = a.add (j + 1) := by
        unfold Addr.add
        by_cases hj : j = 0
        · subst hj; simp
        · simp [hj]; omega
      rw [e]; exact this)
    simp only [List.length_cons, loadBytes, Sem.run_bind, run_load, h0, Result.andThen]
    rw [ih]
    congr 1
    apply ByteArray.ext
    simp [ByteArray.push]

theorem run_uStr {w : World} (pt it ty e : TypeId) (hp : P.underlying pt = some (.pointer e)) (hc : P.cellsOf e = 1) (g d cells : Nat) (hsh : w.shape? g = some (e, cells)) (l : List Int) (h0 : l ≠ []) (hn : d + l.length ≤ cells) (h63 : l.length ≤ 9223372036854775807)
    (hcell : ∀ j n, l[j]? = some n → w.cell? ((⟨g, d, none⟩ : Addr).add j) = some (.int .u8 n)) :
    (Builtin.unsafeString_ #[pt, it] ty #[.pointer (some ⟨g, d, none⟩), .int .i64 l.length]).run P w = .ok (.string ⟨(l.map fun n => UInt8.ofNat n.toNat).toArray⟩) (w.freeze ⟨g, d, none⟩ l.length) := by
  have hl : l.length ≠ 0 := by simpa using h0
  have hlb := run_loadInts (P := P) w l ⟨g, d, none⟩ .empty hcell
  have hlies := lies_at (P := P) hc (cells / P.cellsOf e) d l.length (by rw [hc]; simpa using hn)
  have h63' : ¬ (9223372036854775807 : Int) < (l.length : Int) := by omega
  have hdef : Builtin.unsafeString_ #[pt, it] ty #[.pointer (some ⟨g, d, none⟩), .int .i64 l.length] =
      (do
        let n ← asInt (.int .i64 l.length)
        if n < 0 then runtimePanic (.error "unsafe.String: len out of range")
        if n > IntKind.i64.max then unsupported (.unsafePointer "String: a length above the largest int")
        if n = 0 then pure (.string .empty)
        else if ← variablesAt ⟨g, d, none⟩ (← elemOf pt) n.toNat then do
          let s ← loadBytes ⟨g, d, none⟩ .empty n.toNat
          freeze ⟨g, d, none⟩ n.toNat
          pure (.string s)
        else unsupported (.unsafePointer "String: not so many bytes at ptr")) := rfl
  rw [hdef]
  have hmax : IntKind.i64.max = 9223372036854775807 := rfl
  have hneg : ¬ (l.length : Int) < 0 := by omega
  simp [asInt, asIntOf, hmax, h63', hneg, hl, variablesAt, hsh, elemOf, run_underlying hp, hlies, hlb]

theorem bytes_cells {μ : Mu} {l l' : List Value} {r : List UInt8} (h : VRs μ l l') (e : bytesOf l = some r) : ∃ ns : List Int, l = ns.map (Value.int .u8) ∧ r = (ns.map fun n => UInt8.ofNat n.toNat) ∧ ∀ (j : Nat) (n : Int), ns[j]? = some n → l'[j]? = some (Value.int .u8 n) := by
  obtain ⟨ns, rfl, rfl⟩ := bytesOf_ok e
  refine ⟨ns, rfl, rfl, fun j n hn => ?_⟩
  have hl : (ns.map (Value.int .u8))[j]? = some (.int .u8 n) := by rw [List.getElem?_map, hn]; rfl
  obtain ⟨v, hv, hr⟩ := h.get hl
  cases hr
  exact hv

theorem freeze_other (w : World) (a : Addr) (n r : Nat) (h : r ≠ a.block) : (w.freeze a n).heap[r]? = w.heap[r]? := by
  unfold World.freeze
  split
  · rfl
  · simp only [Array.getElem?_modify]
    rw [if_neg (fun e => h e.symm)]

theorem Rel.freezeAt {W : World} {μ : Mu} {h : Hp} {w : World} (R : Rel W μ h w) {b : Nat} {i : BI} {c : Tr Value} {k : Nat} {z : ZT} {ti : Bool} (hb : μ b = some i) (ho : h.b.get b = some (.cells c k z ti false)) (a : Addr) (ha : a.block = i.rb) (n : Nat) :
    Rel W μ ⟨h.n, h.b.del b⟩ (w.freeze a n) := by
  obtain ⟨cs, et, fz, r1, r2, r3, r4, r5, r6, r7, r8, r9⟩ := R.ob b i _ hb ho
  have hN := (r9 rfl).1
  have old : ∀ {x o}, (h.b.del b).get x = some o → x ≠ b ∧ h.b.get x = some o := fun {x o} hx => by
    rw [Tr.get_del] at hx
    split at hx
    · cases hx
    · rename_i hne; exact ⟨hne, hx⟩
  refine ⟨R.gl, R.dom, fun d j o hd hod => ?_, fun d e j k o p hd he hod hep wo wp hjk => R.inj d e j k o p hd he (old hod).2 (old hep).2 wo wp hjk, Lib.below_freeze R.below (by rw [ha]; exact hN) n⟩
  obtain ⟨hne, hod⟩ := old hod
  have ro := R.ob d j o hd hod
  refine ro.move (Le.refl _) (freeze_other w a n _ fun hrb => ?_)
  rw [ha] at hrb
  cases o with
  | cells c2 n2 z2 ti2 ro2 =>
    cases ro2 with
    | false => exact hne (R.inj d b j i _ _ hd hb hod ho rfl rfl hrb)
    | true =>
      obtain ⟨_, _, _, _, _, _, _, _, _, _, k1, _⟩ := ro
      have := k1 rfl
      omega
  | map es => exact hne (R.inj d b j i _ _ hd hb hod ho trivial rfl hrb)
  | mark => exact hne (R.inj d b j i _ _ hd hb hod ho trivial rfl hrb)
  | lock _ _ => exact hne (R.inj d b j i _ _ hd hb hod ho trivial rfl hrb)
  | chan _ _ => exact hne (R.inj d b j i _ _ hd hb hod ho trivial rfl hrb)

theorem ok_uStr (C : CxOk P cx) {t it e : TypeId} {p n : Operand} {i : TI} (ht : cx.ti t = some i) (hd : i.desc = .pointer e) (h1 : cx.one e = true) (ho : o.op = .call { callee := .builtin .unsafeString, args := #[p, n], argTypes := #[t, it] }) :
    EffOk P o fun ρ h => uStr e h (ρ p) (match ρ n with | .int .i64 (.ofNat k) => some k | _ => none) := by
  intro W μ ρ ρ' h w v h' hop R ev
  have hp := mem_ops hop ho (x := p) (by simp [Op.operands, Call.operands])
  have hn := mem_ops hop ho (x := n) (by simp [Op.operands, Call.operands])
  obtain ⟨_, _, _, hu, _⟩ := C.ti t i ht
  rw [hd] at hu
  have hexec : ∀ {r : Value} {w' : World}, (Builtin.unsafeString_ #[t, it] o.type #[ρ' p, ρ' n]).run P w = .ok r w' → (execOp ρ' o).run P w = .ok (.value r) w' := by
    intro r w' hr
    simp [execOp, ho, resolve, invoke, builtin, hr]
  have ev : uStr e h (ρ p) (match ρ n with | .int .i64 (.ofNat k) => some k | _ => none) = .ok v h' := ev
  have hnat : ∀ k, (match ρ n with | .int .i64 (.ofNat k) => some k | _ => none) = some k → ρ' n = .int .i64 (k : Int) := fun k hk => by
    split at hk
    · rename_i k' hq
      cases hk
      rw [hq] at hn
      generalize ρ' n = y at hn
      cases hn; rfl
    · cases hk
  generalize (match ρ n with | .int .i64 (.ofNat k) => some k | _ => none) = nn at ev hnat
  unfold uStr at ev
  split at ev
  · rename_i a hq
    cases ev
    rw [hq] at hp
    generalize hr : ρ' p = r at hp hexec
    have hnn := hnat 0 rfl
    rw [hnn] at hexec
    have hpp : ∃ a', r = .pointer a' := by cases hp <;> exact ⟨_, rfl⟩
    obtain ⟨a', rfl⟩ := hpp
    exact ⟨_, _, _, μ, hexec (Lib.run_unsafeString_none w t it o.type a'), rfl, .string _, R, Ext.refl _ _, Nat.le_refl _⟩
  · rename_i m b off hq
    split at ev
    · rename_i c k z ti hob
      split at ev
      · rename_i el l hel hl
        split at ev
        · rename_i r hbe hr
          split at ev
          · rename_i hlim
            cases ev
            have hbe := Nat.eq_of_beq_eq_true hbe
            subst hbe
            have hlim := blt_lt hlim
            rw [hq] at hp
            generalize hrp : ρ' p = pp at hp hexec
            have hnn := hnat (m + 1) rfl
            rw [hnn] at hexec
            cases hp with
            | ptr _ hm =>
              rename_i bi
              obtain ⟨cs, et, fz, r1, r2, r3, r4, r5, r6, r7, r8, r9⟩ := R.ob b bi _ hm hob
              obtain ⟨l', g1, g2, g3, g4, g5⟩ := R.cells hm hob hl
              obtain ⟨ns, b1, b2, b3⟩ := bytes_cells g1 hr
              subst b2
              have hel2 := (r2.2 el hel).1
              subst hel2
              have hlen : ns.length = m + 1 := by
                have g3' : l.length = m + 1 := g3
                rw [← g3', b1]; simp
              have hg5 := g5.resolve_left (by omega)
              have hnd : ns ≠ [] := fun h0 => by rw [h0] at hlen; simp at hlen
              have hrun := run_uStr (P := P) (w := w) t it o.type et hu (C.one et h1) bi.rb (bi.d + off) cs.size (shape_cells r1) ns hnd (by omega) (by have := lim63_eq; omega) (fun j n hj => g4 j _ (b3 j n hj))
              rw [hlen] at hrun
              refine ⟨_, _, _, μ, hexec hrun, rfl, .string _, R.freezeAt hm hob _ rfl _, Ext.refl _ _, Nat.le_refl _⟩
          · cases ev
        · cases ev
      · cases ev
    · cases ev
  · cases ev
end Go.EvM
