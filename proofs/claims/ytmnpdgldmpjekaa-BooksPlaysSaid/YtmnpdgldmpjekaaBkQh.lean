/- BkQ14: BooksPlays. -/
import Derived.Test.YtmnpdgldmpjekaaBkQg
import Derived.Test.YtmnpdgldmpjekaaBkP9
namespace Go.Bk
open Go Go.Maps Go.RowKit Go.Proofs
set_option linter.unusedVariables false

theorem wr_add {i k : Nat} (hi : i < 1000) (hk : k < 1000) : wrap64 ((i : Int) + (k : Int)) = ((i + k : Nat) : Int) := by unfold wrap64; omega
/-- The loop's state. -/
structure St (w wr : World) (sb i : Nat) (E : Nat → En) (n bm : Nat) (v vw : Value) (es : List En) (D : DataW Unit) : Prop where
  n1 : n ≤ 2 * i
  m1 : es.length ≤ i
  bk : Books w.heap.size sb bm n es.length v (encL es) D wr
  hv : v = .slice none 0 0 ∨ 0 < es.length
  row : RowV wr vw es
  apart : ∀ k, vw.ownBlock = some k → k ≠ sb ∧ k ≠ bm ∧ v.ownBlock ≠ some k
  inv : Inv D es
  below : Below w.heap.size w wr

set_option maxHeartbeats 16000000 in
set_option maxRecDepth 100000 in
theorem plays (awake : ∀ w, Calls Try.prog 6 #[] w fun e w' => e = .returned (.bool true) ∧ Below w.heap.size w w')
    (a : Option Addr) (len cap : Nat) (E : Nat → En) (tg : Int) (w : World) (hcap : len ≤ cap) (htg : (Lit.int .i64 tg).wf = true)
    (he : Ents w a len (fun j => (E j).dy) (fun j => (E j).am) (fun j => (E j).db) (fun j => (E j).cr) (fun j => (E j).me)) :
    Calls Try.prog 5 #[.slice a len cap, .int .i64 tg] w fun e w' => e = .returned (.bool true) ∧ Below w.heap.size w w' := by
  by_cases hl : len > 80
  · have hl1 : decide (len > 80) = true := decide_eq_true hl
    go_enter Try.func5, Try.ntmps5
    go_wp2_with (first
      | (go_at_call 6; with_reducible refine (awake _).mono ?_; rintro e w1 ⟨rfl, hb⟩)
      | go_in)
    go_ret
    exact ⟨rfl, hb⟩
  · go_enter Try.func5, Try.ntmps5
    go_wp2_with (first
      | (go_at_call 6; with_reducible refine (awake _).mono ?_; rintro e w1 ⟨rfl, hb⟩)
      | (go_at_call 7; with_reducible refine (new _).mono ?_; rintro e w2 ⟨rfl, rfl⟩)
      | go_in)
    have hb0 := books_new w1 w.heap.size hb.size
    have hB0 : Below w.heap.size w ((w1.alloc (.map #[] 0)).alloc (.cells #[.slice none 0 0, .map (some w1.heap.size)] 50)) := (hb.alloc hb.size _).alloc (by simp; have := hb.size; omega) _
    obtain ⟨sb, hsb⟩ : ∃ sb, sb = w1.heap.size + 1 := ⟨_, rfl⟩
    rw [← hsb] at hb0 ⊢
    clear hsb
    go_loopw [6, 7, 8, 9, 10, 11, 12] (fun v6 v7 _ _ _ _ _ wr => ∃ (i n bm : Nat) (v : Value) (es : List En) (D : DataW Unit), v7 = .int .i64 i ∧ i ≤ len ∧ St w wr sb i E n bm v v6 es D) (fun _ x _ _ _ _ _ _ => len - (RowKit.intOf x).toNat)
    case atStart => exact ⟨0, 0, _, _, [], _, rfl, by omega, ⟨by omega, by simp, hb0, .inl rfl, .inl ⟨rfl, rfl⟩, fun k hk => (by cases hk), Inv.empty, hB0⟩⟩
    case round =>
      clear hb0 hB0 hb
      obtain ⟨i, n, bm, v, es, D, rfl, hi, st⟩ := hrel
      by_cases hlt : i < len
      · obtain ⟨x, rfl, hxb, q0, q1, q2, q3, q4⟩ := he.cells i hlt
        obtain ⟨wa, wd, wc⟩ := he.wf i hlt
        have hBw := st.below
        have rr : ∀ j, j < len → ∀ W, Below w.heap.size w W → W.cell? (x.add (j * 5)) = some (.int .i64 (E j).dy) ∧ W.cell? ⟨(x.add (j * 5)).block, (x.add (j * 5)).off + 1, none⟩ = some (.string (E j).db) ∧ W.cell? ⟨(x.add (j * 5)).block, (x.add (j * 5)).off + 2, none⟩ = some (.string (E j).cr) ∧
            W.cell? ⟨(x.add (j * 5)).block, (x.add (j * 5)).off + 3, none⟩ = some (.int .i64 (E j).am) ∧ W.cell? ⟨(x.add (j * 5)).block, (x.add (j * 5)).off + 4, none⟩ = some (.string (E j).me) := by
          intro j hj W hW
          obtain ⟨x', ex, hxb', q0, q1, q2, q3, q4⟩ := he.cells j hj
          cases ex
          refine ⟨(hW.cell (p := x.add (j * 5 + 0)) (by rw [add_block]; exact hxb')).trans q0, ?_, ?_, ?_, ?_⟩
          · rw [add_at x _ 1 (by decide)]; exact (hW.cell (p := x.add (j * 5 + 1)) (by rw [add_block]; exact hxb')).trans q1
          · rw [add_at x _ 2 (by decide)]; exact (hW.cell (p := x.add (j * 5 + 2)) (by rw [add_block]; exact hxb')).trans q2
          · rw [add_at x _ 3 (by decide)]; exact (hW.cell (p := x.add (j * 5 + 3)) (by rw [add_block]; exact hxb')).trans q3
          · rw [add_at x _ 4 (by decide)]; exact (hW.cell (p := x.add (j * 5 + 4)) (by rw [add_block]; exact hxb')).trans q4
        have r0 : wr.cell? (x.add (i * 5)) = some (.int .i64 (E i).dy) := (hBw.cell (p := x.add (i * 5 + 0)) (by rw [add_block]; exact hxb)).trans q0
        have r1 : wr.cell? ⟨(x.add (i * 5)).block, (x.add (i * 5)).off + 1, none⟩ = some (.string (E i).db) := by rw [add_at x _ 1 (by decide)]; exact (hBw.cell (p := x.add (i * 5 + 1)) (by rw [add_block]; exact hxb)).trans q1
        have r2 : wr.cell? ⟨(x.add (i * 5)).block, (x.add (i * 5)).off + 2, none⟩ = some (.string (E i).cr) := by rw [add_at x _ 2 (by decide)]; exact (hBw.cell (p := x.add (i * 5 + 2)) (by rw [add_block]; exact hxb)).trans q2
        have r3 : wr.cell? ⟨(x.add (i * 5)).block, (x.add (i * 5)).off + 3, none⟩ = some (.int .i64 (E i).am) := by rw [add_at x _ 3 (by decide)]; exact (hBw.cell (p := x.add (i * 5 + 3)) (by rw [add_block]; exact hxb)).trans q3
        have r4 : wr.cell? ⟨(x.add (i * 5)).block, (x.add (i * 5)).off + 4, none⟩ = some (.string (E i).me) := by rw [add_at x _ 4 (by decide)]; exact (hBw.cell (p := x.add (i * 5 + 4)) (by rw [add_block]; exact hxb)).trans q4
        by_cases s1 : ((E i).db.size : Int) > 60
        · go_wp2
          go_ret
          exact ⟨rfl, hBw⟩
        by_cases s2 : ((E i).cr.size : Int) > 60
        · go_wp2
          go_ret
          exact ⟨rfl, hBw⟩
        by_cases s3 : ((E i).me.size : Int) > 100
        · go_wp2
          go_ret
          exact ⟨rfl, hBw⟩
        by_cases g : tg > 1 ∧ wrap64 ((i : Int) + tg) ≤ (len : Int) ∧ tg < 6
        · obtain ⟨t, rfl⟩ : ∃ t : Nat, tg = (t : Int) := ⟨tg.toNat, by omega⟩
          have hn80 : i < 80 := by omega
          obtain ⟨g1, g2, g3⟩ := g
          have hit : i + t ≤ len := by unfold wrap64 at g2; omega
          have ht2 : 2 ≤ t := by omega
          have hci : ¬ cap = i := by omega
          have ht5 : t < 6 := by omega
          obtain ⟨aw, cw, hvw⟩ := st.row.len
          subst hvw
          go_wp2
          rename World => wA
          go_loopw [8, 9, 10] (fun v8 v9 v10 wx => ∃ (k : Nat) (err : Int), v9 = .int .i64 err ∧ v10 = .int .i64 k ∧ k ≤ t ∧ Below wA.heap.size wA wx ∧ Hid8 ((err = 0 ∧ (∀ j, j < k → mayL (esN es (fun j => E (i + j)) j) (E (i + j)) = 0) ∧ RowV wx v8 (esN es (fun j => E (i + j)) k) ∧ (∀ b, v8.ownBlock = some b → (k = 0 ∧ v8 = .slice aw es.length cw) ∨ wA.heap.size ≤ b)) ∨
              (err ≠ 0 ∧ ∃ k0, k = k0 + 1 ∧ (∀ j, j < k0 → mayL (esN es (fun j => E (i + j)) j) (E (i + j)) = 0) ∧ err = mayL (esN es (fun j => E (i + j)) k0) (E (i + k0))))) (fun _ _ z _ => t - (RowKit.intOf z).toNat)
          case atStart => exact ⟨0, 0, rfl, rfl, by omega, Below.refl _ _, ⟨.inl ⟨rfl, fun j hj => by omega, st.row, fun b hb => .inl ⟨rfl, rfl⟩⟩⟩⟩
          case round =>
            obtain ⟨k, err, rfl, rfl, hk, hbx, HS⟩ := hrel
            by_cases hz : err = 0
            · subst hz
              obtain ⟨_, hall, hrow, hfr⟩ := HS.out.resolve_right (fun h => h.1 rfl)
              by_cases hkt : k < t
              · have hik : i + k < len := Nat.lt_of_lt_of_le (Nat.add_lt_add_left hkt i) hit
                have b0 : (0 : Int) ≤ (i : Int) + (k : Int) := Int.natCast_nonneg (i + k)
                have b1 : (i : Int) + (k : Int) < (len : Int) := Int.ofNat_lt.2 hik
                have b2 : (k : Int) < (t : Int) := Int.ofNat_lt.2 hkt
                obtain ⟨p0, p1, p2, p3, p4⟩ := rr (i + k) hik wr (hBw.trans (hbx.mono hBw.size))
                obtain ⟨am, cm, hv8⟩ := hrow.len
                subst hv8
                have hown := own_is (E (i + k))
                change ∀ w : World, Calls Try.prog 15 #[.agg #[.int .i64 (E (i + k)).dy, .string (E (i + k)).db, .string (E (i + k)).cr, .int .i64 (E (i + k)).am, .string (E (i + k)).me]] w fun ee w' => ee = .returned (.agg #[.int .i64 (E (i + k)).dy, .string (E (i + k)).db, .string (E (i + k)).cr, .int .i64 (E (i + k)).am, .string (E (i + k)).me]) ∧ Below w.heap.size w w' at hown
                obtain ⟨ek, HEK⟩ : ∃ ek, Hid8 (ek = esN es (fun j => E (i + j)) k) := ⟨_, ⟨rfl⟩⟩
                rw [← HEK.out] at hrow ⊢
                have hel : ek.length < 1000000 := by rw [HEK.out, esN_length]; have := st.m1; omega
                have hpe : ∀ W, Below wr.heap.size wr W → Calls Try.prog 14 #[.slice am ek.length cm, .agg #[.int .i64 (E (i + k)).dy, .string (E (i + k)).db, .string (E (i + k)).cr, .int .i64 (E (i + k)).am, .string (E (i + k)).me]] W fun ee w' => ∃ v', ee = .returned (.tuple #[v', .int .i64 (mayL ek (E (i + k)))]) ∧ Below W.heap.size W w' ∧ (mayL ek (E (i + k)) ≠ 0 → v' = .slice am ek.length cm) ∧
                    (mayL ek (E (i + k)) = 0 → RowV w' v' (ek ++ [E (i + k)]) ∧ ∀ k, v'.ownBlock = some k → W.heap.size ≤ k) := fun W hW => postEntry (hrow.below hW) (E (i + k)) hel
                go_wp2_with (first
                  | (go_at_call 15; with_reducible refine (hown _).mono ?_; rintro e w2 ⟨rfl, hb2⟩)
                  | (go_at_call 14; with_reducible refine (hpe _ hb2).mono ?_; rintro e w3 ⟨vw', rfl, hb3, hno, hyes⟩)
                  | go_in)
                refine ⟨?_, by simp [RowKit.intOf]; omega⟩
                have hB3 : Below wr.heap.size wr w3 := hb2.trans (hb3.mono hb2.size)
                by_cases hr : mayL ek (E (i + k)) = 0
                · obtain ⟨hrow', hfresh⟩ := hyes hr
                  refine ⟨k + 1, 0, by rw [hr], by simp, hkt, hbx.trans (hB3.mono hbx.size), ⟨.inl ⟨rfl, fun j hj => ?_, ?_, fun b hb => .inr ?_⟩⟩⟩
                  · by_cases hjk : j < k
                    · exact hall j hjk
                    · obtain rfl : j = k := Nat.le_antisymm (Nat.le_of_lt_succ hj) (Nat.le_of_not_lt hjk)
                      rw [← HEK.out]; exact hr
                  · show RowV w3 vw' (esN es (fun j => E (i + j)) k ++ [E (i + k)])
                    rw [← HEK.out]; exact hrow'
                  · exact Nat.le_trans (Nat.le_trans hbx.size hb2.size) (hfresh b hb)
                · exact ⟨k + 1, _, rfl, by simp, hkt, hbx.trans (hB3.mono hbx.size), ⟨.inr ⟨hr, k, rfl, hall, by rw [HEK.out]⟩⟩⟩
              · obtain rfl : k = t := Nat.le_antisymm hk (Nat.le_of_not_lt hkt)
                have b0 : (i : Int) + (k : Int) ≤ (len : Int) := Int.ofNat_le.2 hit
                have hbw : Below w.heap.size w wr := hBw.trans (hbx.mono hBw.size)
                have hents := (he.sub i k hit).kept hbw
                have hrs : ∀ j, j < k → rN D (fun j => (E (i + j)).dy) (fun j => (E (i + j)).am) (fun j => (E (i + j)).db) (fun j => (E (i + j)).cr) j = 0 := by
                  intro j hj
                  induction j using Nat.strongRecOn with
                  | _ j ih => exact (rN_eq st.inv (st.bk.map.tidy law9) (fun j => E (i + j)) j (fun m hm => ih m hm (Nat.lt_trans hm hj))).trans (hall j hj)
                have hgrp := group st.inv (st.bk.map.tidy law9) (fun j => E (i + j)) k hrs
                have hxn := xN_eq es (fun j => E (i + j)) k
                have hln := esN_length es (fun j => E (i + j)) k
                have hm1 := st.m1
                have hn1 := st.n1
                have hA : ∀ cp, Calls Try.prog 13 #[.pointer (some ⟨sb, 0, none⟩), .slice (some (x.add (i * 5))) k cp] wr fun e w' => e = .returned (.int .i64 0) ∧ Below w.heap.size wr w' ∧ ∃ bm' v', Books w.heap.size sb bm' (n + 2 * k) (es.length + k) v' (encL (esN es (fun j => E (i + j)) k)) (dN D (fun j => (E (i + j)).am) (fun j => (E (i + j)).db) (fun j => (E (i + j)).cr) k) w' ∧
                    (v' = .slice none 0 0 ∨ 0 < es.length + k) ∧ Fr (fun k => k = sb) wr w' ∧ (∀ k, v'.ownBlock = some k → wr.heap.size ≤ k) ∧ wr.heap.size ≤ bm' := fun cp =>
                  (all_is (st.bk.kept (grown_of_below hbx)) st.hv (encL_one es) (cap := cp) hents (by omega) (by unfold maxLen; omega)).mono fun e w' ⟨r, he', hr⟩ => by
                    rcases hr with ⟨rfl, _, hB, bm', v', hbk', hv', hF, ho, hbm⟩ | ⟨hr0, ⟨j, hj, _, hrj⟩, _⟩
                    · refine ⟨he', hB, bm', v', ?_, hv', hF, ho, hbm⟩
                      rw [← hxn]
                      exact hbk'
                    · exact absurd (hrj.trans (hrs j hj)) hr0
                have hsb : sb < wA.heap.size := st.bk.lt
                have hbxs := hbx.size
                have hinv := hgrp.1
                clear rr r0 r1 r2 r3 r4 q0 q1 q2 q3 q4 hrs hgrp hxn hall hents
                go_wp2_with (first
                  | (go_at_call 13; with_reducible refine (hA _).mono ?_; rintro e w5 ⟨rfl, hB5, bm', v', hbk', hv', hF, ho, hbm⟩)
                  | go_in)
                have hk2 : ¬ k = 0 := by omega
                have hown2 : ∀ b, u8.ownBlock = some b → wA.heap.size ≤ b := fun b hb => (hfr b hb).resolve_left (fun h => hk2 h.1)
                refine ⟨⟨i + k, n + 2 * k, bm', v', esN es (fun j => E (i + j)) k, dN D (fun j => (E (i + j)).am) (fun j => (E (i + j)).db) (fun j => (E (i + j)).cr) k, by simp, hit, ⟨by omega, by rw [hln]; omega, hbk'.cast rfl hln.symm, by rw [hln]; exact hv', hrow.fr hF (fun b hb hS => ?_), fun b hb => ⟨?_, ?_, fun hx => ?_⟩, hinv, hbw.trans hB5⟩⟩, by simp [RowKit.intOf]; omega⟩
                · have := hown2 b hb; subst hS; omega
                · have := hown2 b hb; omega
                · have := hrow.lt hb; omega
                · have h1 := ho b hx; have h2 := hrow.lt hb; omega
            · obtain ⟨_, k0, hk0, hall, herr⟩ := HS.out.resolve_left (fun h => hz h.1)
              have b0 : (i : Int) + (t : Int) ≤ (len : Int) := Int.ofNat_le.2 hit
              have hz1 : (err == 0) = false := beq_eq_false_iff_ne.2 hz
              have hz2 : (err != 0) = true := bne_iff_ne.2 hz
              have hbw : Below w.heap.size w wr := hBw.trans (hbx.mono hBw.size)
              have hents := (he.sub i t hit).kept hbw
              have hrs : ∀ j, j < k0 → rN D (fun j => (E (i + j)).dy) (fun j => (E (i + j)).am) (fun j => (E (i + j)).db) (fun j => (E (i + j)).cr) j = 0 := by
                intro j hj
                induction j using Nat.strongRecOn with
                | _ j ih => exact (rN_eq st.inv (st.bk.map.tidy law9) (fun j => E (i + j)) j (fun m hm => ih m hm (Nat.lt_trans hm hj))).trans (hall j hj)
              have hk00 := (rN_eq st.inv (st.bk.map.tidy law9) (fun j => E (i + j)) k0 hrs).trans herr.symm
              have hm1 := st.m1
              have hn1 := st.n1
              have hA : ∀ cp, Calls Try.prog 13 #[.pointer (some ⟨sb, 0, none⟩), .slice (some (x.add (i * 5))) t cp] wr fun e w' => e = .returned (.int .i64 err) ∧ Below wr.heap.size wr w' := fun cp =>
                (all_is (st.bk.kept (grown_of_below hbx)) st.hv (encL_one es) (cap := cp) hents (by omega) (by unfold maxLen; omega)).mono fun e w' ⟨r, he', hr⟩ => by
                  rcases hr with ⟨rfl, h0, _⟩ | ⟨hr0, ⟨j, hj, hf, hrj⟩, hB⟩
                  · exact absurd (hk00.symm.trans (h0 k0 (by omega))) hz
                  · have hjk : j = k0 := by
                      rcases Nat.lt_trichotomy j k0 with h | h | h
                      · exact absurd (hrj.trans (hrs j h)) hr0
                      · exact h
                      · exact absurd (hk00.symm.trans (hf k0 h)) hz
                    subst hjk
                    rw [he', hrj]
                    exact ⟨by rw [← hk00], hB⟩
              clear rr r0 r1 r2 r3 r4 q0 q1 q2 q3 q4 hrs hall hents hk00 herr
              rcases Nat.lt_or_ge k t with b2 | b2
              all_goals
                have b3 : ((k : Int) < (t : Int)) ∨ True := .inr trivial
                go_wp2_with (first
                  | (go_at_call 13; with_reducible refine (hA _).mono ?_; rintro e w5 ⟨rfl, hB5⟩)
                  | go_in)
                have hz5 : Below wA.heap.size wA w5 := hbx.trans (hB5.mono hbx.size)
                exact ⟨⟨i + t, n, bm, v, es, D, by simp, hit, ⟨by omega, by omega, st.bk.kept (grown_of_below hz5), st.hv, st.row.below hz5, st.apart, st.inv, hBw.trans (hz5.mono hBw.size)⟩⟩, by simp [RowKit.intOf]; omega⟩
        · have hg : (¬ tg > 1) ∨ (tg > 1 ∧ ¬ wrap64 ((i : Int) + tg) ≤ (len : Int)) ∨ (tg > 1 ∧ wrap64 ((i : Int) + tg) ≤ (len : Int) ∧ ¬ tg < 6) := by omega
          obtain ⟨aw, cw, rfl⟩ := st.row.len
          have hown := own_is (E i)
          change ∀ w : World, Calls Try.prog 15 #[.agg #[.int .i64 (E i).dy, .string (E i).db, .string (E i).cr, .int .i64 (E i).am, .string (E i).me]] w fun ee w' => ee = .returned (.agg #[.int .i64 (E i).dy, .string (E i).db, .string (E i).cr, .int .i64 (E i).am, .string (E i).me]) ∧ Below w.heap.size w w' at hown
          have hpe : ∀ W, Below wr.heap.size wr W → Calls Try.prog 14 #[.slice aw es.length cw, .agg #[.int .i64 (E i).dy, .string (E i).db, .string (E i).cr, .int .i64 (E i).am, .string (E i).me]] W fun ee w' => ∃ v', ee = .returned (.tuple #[v', .int .i64 (mayL es (E i))]) ∧ Below W.heap.size W w' ∧ (mayL es (E i) ≠ 0 → v' = .slice aw es.length cw) ∧
              (mayL es (E i) = 0 → RowV w' v' (es ++ [E i]) ∧ ∀ k, v'.ownBlock = some k → W.heap.size ≤ k) := fun W hW => postEntry (st.row.below hW) (E i) (by have := st.m1; omega)
          have hpost : ∀ W, Below wr.heap.size wr W → Calls Try.prog 8 #[.pointer (some ⟨sb, 0, none⟩), .agg #[.int .i64 (E i).dy, .string (E i).db, .string (E i).cr, .int .i64 (E i).am, .string (E i).me]] W fun ee w' =>
              ee = .returned (.int .i64 (mayL es (E i))) ∧ Below w.heap.size W w' ∧ (mayL es (E i) ≠ 0 → Below W.heap.size W w') ∧
              (mayL es (E i) = 0 → ∃ v', Books w.heap.size sb bm (n + 1 + 1) (es.length + 1) v' (encL (es ++ [E i])) (putE D (E i).db (E i).cr (E i).am) w' ∧ Fr (fun k => k = sb ∨ k = bm ∨ v.ownBlock = some k) W w' ∧ (∀ k, v'.ownBlock = some k → v.ownBlock = some k ∨ W.heap.size ≤ k)) := fun W hW => by
            rw [← may_eq st.inv (E i), encL_snoc]
            exact post_any sb bm n es.length _ v (encL es) D (E i).dy (E i).am (E i).db (E i).cr (E i).me W (by have := st.n1; unfold maxLen; omega) (by have := st.m1; omega) wd wc wa (st.bk.kept (grown_of_below hW))
          have hn80 : i < 80 := by omega
          rcases hg with h1 | ⟨h1, h2⟩ | ⟨h1, h2, h3⟩
          all_goals
            go_wp2_with (first
              | (go_at_call 15; with_reducible refine (hown _).mono ?_; rintro e w2 ⟨rfl, hb2⟩)
              | (go_at_call 14; with_reducible refine (hpe _ hb2).mono ?_; rintro e w3 ⟨vw', rfl, hb3, hno, hyes⟩; obtain ⟨p0, p1, p2, p3, p4⟩ := rr i hlt w3 ((hBw.trans (hb2.mono hBw.size)).trans (hb3.mono (Nat.le_trans hBw.size hb2.size))))
              | (go_at_call 8; with_reducible refine (hpost _ (hb2.trans (hb3.mono hb2.size))).mono ?_; rintro e w4 ⟨rfl, hB4, hno4, hyes4⟩)
              | go_in)
          all_goals
            refine ⟨?_, by simp [RowKit.intOf]; omega⟩
            have hz3 : Below wr.heap.size wr w3 := hb2.trans (hb3.mono hb2.size)
            by_cases hr : mayL es (E i) = 0
            · obtain ⟨v', bk', hF, hO⟩ := hyes4 hr
              obtain ⟨hrow, hfresh⟩ := hyes hr
              have hs1 := st.bk.lt
              have hs2 := st.bk.bm_lt
              have hs3 := hb2.size
              have hm1 := st.m1
              have hn1 := st.n1
              refine ⟨i + 1, n + 1 + 1, bm, v', es ++ [E i], putE D (E i).db (E i).cr (E i).am, by simp, by omega, ⟨by omega, by simp; omega, bk'.cast rfl (by simp), .inr (by simp), hrow.fr hF (fun k hk hS => ?_), fun k hk => ⟨?_, ?_, fun hv' => ?_⟩, st.inv.step (st.bk.map.tidy law9) (E i) hr, (hBw.trans (hz3.mono hBw.size)).trans hB4⟩⟩
              · have hk2 := hfresh k hk
                rcases hS with rfl | rfl | hS
                · omega
                · omega
                · have := st.bk.row_lt hS; omega
              · have hk2 := hfresh k hk; omega
              · have hk2 := hfresh k hk; omega
              · have hk2 := hfresh k hk
                have hk3 := hrow.lt hk
                rcases hO k hv' with hS | hS
                · have := st.bk.row_lt hS; omega
                · omega
            · have hz4 : Below wr.heap.size wr w4 := hz3.trans ((hno4 hr).mono hz3.size)
              have hn1 := st.n1
              have hm1 := st.m1
              refine ⟨i + 1, n, bm, v, es, D, by simp, by omega, ⟨by omega, by omega, st.bk.kept (grown_of_below hz4), st.hv, ?_, ?_, st.inv, hBw.trans (hz4.mono hBw.size)⟩⟩
              · rw [hno hr]; exact st.row.below hz4
              · rw [hno hr]; exact st.apart
      · obtain rfl : i = len := by omega
        have hsame := same_is (m := 0) st.bk st.hv (by have := st.m1; omega) (by have := st.n1; omega) st.row st.inv.hbal st.inv.htot (KS_sorted st.bk.map) st.inv.cnt
        have hBw := st.below
        have hb3 := st.bk.b3
        clear st he
        go_wp2_with (first
          | (go_at_call 16; with_reducible refine hsame.mono ?_; rintro e w9 ⟨rfl, hb9⟩)
          | go_in)
        go_ret
        exact ⟨rfl, hBw.trans (hb9.mono hb3)⟩
end Go.Bk
