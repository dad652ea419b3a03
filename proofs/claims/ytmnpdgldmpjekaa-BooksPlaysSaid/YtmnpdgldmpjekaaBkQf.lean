/- BkQ11: same, its first loop. -/
import Derived.Test.YtmnpdgldmpjekaaBkQe
import Derived.Test.YtmnpdgldmpjekaaBkQd
import Derived.Test.YtmnpdgldmpjekaaBkP12
import Derived.Deep.RegionWith
import Derived.Laws.Cover1
import Derived.Sort.Walk0
namespace Go.Bk
open Go Go.Maps Go.RowKit Go.Proofs
set_option linter.unusedVariables false

/-- Does an entry name an account? -/
def namedB (x : ByteArray) (e : En) : Bool := (e.db.toList == x.toList) || (e.cr.toList == x.toList)
def cntN (es : List En) (x : ByteArray) : Nat := (es.filter (namedB x)).length
theorem sumKG_snoc (g : Int → Int) (D : DataW Unit) (l : List (List UInt8)) (x : List UInt8) : sumKG g D (l ++ [x]) = sumKG g D l + gnum g (D.atKey (.string x) (.lit (.int .i64 0))) := by
  induction l with
  | nil => simp [sumKG]
  | cons y l ih => simp only [List.cons_append, sumKG, ih]; omega
theorem tot_split (D : DataW Unit) : totG posF D - totG negF D = tot D := by
  cases D with
  | map es =>
    show sumG posF es - sumG negF es = sumE es
    induction es with
    | nil => rfl
    | cons p l ih =>
      simp only [sumG, sumE, gnum]
      have : posF (num p.2) - negF (num p.2) = num p.2 := by unfold posF negF; split <;> omega
      omega
  | _ => rfl
theorem KS_tot (g : Int → Int) (g0 : g 0 = 0) {w : World} {bm n : Nat} {D : DataW Unit} (h : w.ownsMap Try.prog 9 (plainElem Try.prog 2) bm n D) : sumKG g D (KS D) = totG g D := by
  unfold KS
  rw [sumKG_perm g g0 D (List.mergeSort_perm _ _)]
  obtain ⟨es, rfl, hp, hk'⟩ := h.entries law9
  exact sumKG_all g g0 hp (keys_str h)
theorem leq_false {x y : List UInt8} (h : y < x) : (Op.bytesLess x y || x == y) = false := by
  rw [bytesLess_eq]
  have h1 : ¬ x < y := fun h2 => List.lt_asymm h h2
  have h2 : x ≠ y := fun e => by rw [e] at h; exact List.lt_irrefl _ h
  simp [h1, h2]
theorem below_d {wr w3 : World} (hb3 : Below wr.drew.heap.size wr.drew w3) : Below wr.heap.size wr w3 := (Below.refl _ _).drew.trans hb3
set_option maxHeartbeats 16000000 in
set_option maxRecDepth 100000 in
theorem same_is {sb bm n m B : Nat} {v vw : Value} {es : List En} {D : DataW Unit} {w : World} (bk : Books B sb bm n es.length v (encL es) D w) (hv : v = .slice none 0 0 ∨ 0 < es.length) (hmm : es.length < 1000) (hn : n ≤ 1000) (hw : RowV w vw es)
    (hbal : ∀ x, bal D x = balW es x) (htot : tot D % 18446744073709551616 = 0) (hsort : ∀ i (hi : i + 1 < (KS D).length), ((KS D)[i]'(by omega)) < ((KS D)[i + 1]'hi)) (hcnt : ∀ x ∈ KS D, 0 < cntN es ⟨x.toArray⟩ ∧ (es.filter (fun e => !delP ⟨x.toArray⟩ e)).length = cntN es ⟨x.toArray⟩) :
    Calls Try.prog 16 #[.pointer (some ⟨sb, 0, none⟩), vw] w fun ee w' => ee = .returned (.bool true) ∧ Below w.heap.size w w' := by
  obtain ⟨aw, cw, rfl⟩ := hw.len
  have hnd : ∀ j (hj : j < es.length), delP ⟨#[]⟩ (es[j]'hj) = false := fun j hj => by simp [delP, ByteArray.toList_eq]
  have hent := entries bk rfl hv (by omega) ⟨#[]⟩
  have hlen0 : (es.filter (fun e => !delP ⟨#[]⟩ e)).length = es.length := by
    rw [List.filter_eq_self.2 fun e he => ?_]
    obtain ⟨j, hj, rfl⟩ := List.getElem_of_mem he
    rw [hnd j hj]; rfl
  rw [hlen0] at hent
  go_enter Try.func16, Try.ntmps16
  go_wp2_with (first
    | (go_at_call 18; with_reducible refine hent.mono ?_; rintro e w1 ⟨v1, rfl, hb1, ⟨a1, c1, rfl⟩, hr1⟩; replace hr1 := hr1 hnd; have bk1 := bk.kept (grown_of_below hb1))
    | (go_at_call 12; with_reducible refine (len_is bk1).mono ?_; rintro e w2 ⟨rfl, rfl⟩)
    | go_in)
  have hq42 := fun j (hj : j < es.length) => q42 (es[j]'hj).dy (es[j]'hj).am (es[j]'hj).db (es[j]'hj).cr (es[j]'hj).me
  go_loopw [6] (fun v6 wr => ∃ k : Nat, v6 = .int .i64 k ∧ k ≤ es.length ∧ RowV wr (.slice a1 es.length c1) es ∧ RowV wr (.slice aw es.length cw) es ∧ Below w.heap.size w wr) (fun i _ => es.length - (RowKit.intOf i).toNat)
  case atStart => exact ⟨0, rfl, by omega, hr1, hw.below hb1, hb1⟩
  case round =>
    obtain ⟨k, rfl, hk, ra, rw', hbr⟩ := hrel
    by_cases hlt : k < es.length
    · obtain ⟨g, cg, e, hg, c0, c1', c2, c3, c4⟩ := ra.at k hlt
      cases e
      obtain ⟨g', cg', e, hg', d0, d1, d2, d3, d4⟩ := rw'.at k hlt
      cases e
      have b1 : (k : Int) < (es.length : Int) := by omega
      have b0 : (0 : Int) ≤ (k : Int) := by omega
      have hqk := hq42 k hlt
      have hown := own_is (es[k]'hlt)
      change ∀ w : World, Calls Try.prog 15 #[.agg #[.int .i64 (es[k]'hlt).dy, .string (es[k]'hlt).db, .string (es[k]'hlt).cr, .int .i64 (es[k]'hlt).am, .string (es[k]'hlt).me]] w fun ee w' => ee = .returned (.agg #[.int .i64 (es[k]'hlt).dy, .string (es[k]'hlt).db, .string (es[k]'hlt).cr, .int .i64 (es[k]'hlt).am, .string (es[k]'hlt).me]) ∧ Below w.heap.size w w' at hown
      have pk := fun W (h : Below wr.heap.size wr W) => And.intro ((h.cell (p := ⟨g', k * 5, none⟩) hg').trans d0) (And.intro ((h.cell (p := ⟨g', k * 5 + 1, none⟩) hg').trans d1) (And.intro ((h.cell (p := ⟨g', k * 5 + 2, none⟩) hg').trans d2) (And.intro ((h.cell (p := ⟨g', k * 5 + 3, none⟩) hg').trans d3) ((h.cell (p := ⟨g', k * 5 + 4, none⟩) hg').trans d4))))
      go_wp2
      go_region_with (go_at_call 15; with_reducible refine (hown _).mono ?_; rintro e w3 ⟨rfl, hb3⟩; have hb4 := below_d hb3; obtain ⟨s0, s1, s2, s3, s4⟩ := pk w3 hb4)
      all_goals
        have hb5 := hbr.trans (hb4.mono hbr.size)
        have ra' := ra.below hb4
        have rw2 := rw'.below hb4
        clear hb3 hb4 s0 s1 s2 s3 s4 pk c0 c1' c2 c3 c4 d0 d1 d2 d3 d4 hqk hown ra rw' hbr
        go_wp2
        go_roundw
        case rel => exact ⟨k + 1, by simp, by omega, ra', rw2, hb5⟩
        case measure => simp [RowKit.intOf]; omega
    · obtain rfl : k = es.length := by omega
      have bkr := bk.kept (grown_of_below hbr)
      clear ra hr1 hent bk1 hq42
      go_wp2_with (first
        | (go_at_call 9; with_reducible refine (accountsK bkr (by omega)).mono ?_; rintro e w4 ⟨a6, cap6, rfl, ht6, hb4⟩)
        | go_in)
      have hB6 : Below w.heap.size w w4 := hbr.trans (hb4.mono hbr.size)
      have rw6 := rw'.below hb4
      have hkl : ∀ x ∈ KS D, x.length ≤ maxLen := fun x hx => strKeys_le bkr.map Try.underlying9 x ((List.mergeSort_perm _ _).mem_iff.1 hx)
      go_loopw [8, 9, 10, 11, 12, 13] (fun v8 v9 v10 _ _ _ wr => ∃ (p q : Int) (i : Nat), v8 = .int .i64 p ∧ v9 = .int .i64 q ∧ v10 = .int .i64 i ∧ i ≤ (KS D).length ∧ Hid8 ((Lit.int .i64 p).wf = true ∧ (Lit.int .i64 q).wf = true ∧ (p - sumKG posF D ((KS D).take i)) % 18446744073709551616 = 0 ∧ (q - sumKG negF D ((KS D).take i)) % 18446744073709551616 = 0) ∧
        RowV wr (.slice aw es.length cw) es ∧ Txts wr a6 (KS D) ∧ Below w.heap.size w wr) (fun _ _ i _ _ _ _ => (KS D).length - (RowKit.intOf i).toNat)
      case atStart => exact ⟨0, 0, 0, rfl, rfl, rfl, by omega, ⟨by decide, by decide, by simp [sumKG], by simp [sumKG]⟩, rw6, ht6, hB6⟩
      case round =>
        clear hB6 rw6 ht6 hb4 hbr bkr rw'
        obtain ⟨p, q, i, rfl, rfl, rfl, hi, hpq, rw', ht, hbr⟩ := hrel
        by_cases hlt : i < (KS D).length
        · obtain ⟨g6, rfl, hg6, hc6⟩ := ht i hlt
          have hmem : (KS D)[i]'hlt ∈ KS D := List.getElem_mem hlt
          have hgd : (KS D).getD i [] = (KS D)[i]'hlt := by simp [hlt]
          rw [hgd] at hc6
          obtain ⟨key, HK⟩ : ∃ key : ByteArray, Hid8 (key = ⟨((KS D)[i]'hlt).toArray⟩) := ⟨_, ⟨rfl⟩⟩
          have hc6' : wr.cell? ⟨g6, i, none⟩ = some (.string key) := by rw [HK.out]; exact hc6
          have hkd : Hid8 (key.data.toList = (KS D)[i]'hlt) := ⟨by rw [HK.out]⟩
          have hks : key.size ≤ maxLen := by have := hkl _ hmem; rw [HK.out]; simpa [ByteArray.size] using this
          have hcn := hcnt _ hmem
          rw [← HK.out] at hcn
          have bkr := bk.kept (grown_of_below hbr)
          have b0 : (0 : Int) ≤ (i : Int) := by omega
          have b1 : (i : Int) < ((KS D).length : Int) := by omega
          have hbK : Calls Try.prog 10 #[.pointer (some ⟨sb, 0, none⟩), .string key] wr fun e w' => e = .returned (.int .i64 (balW es key)) ∧ w' = wr :=
            (balance sb bm n D key wr bkr.c1 bkr.map hks).mono fun e w' ⟨c, he, hat, hw'⟩ => ⟨by rw [he, ← hbal key]; unfold bal; rw [hat]; rfl, hw'⟩
          clear hc6 hgd
          have hrb := fun q => refBal (w := wr.drewN q) (show RowV (wr.drewN q) (.slice aw es.length cw) es from rw') key (by omega)
          rcases Nat.eq_zero_or_pos i with h0 | h0
          · subst h0
            go_wp2_with (first
              | (go_at_call 10; with_reducible refine hbK.mono ?_; rintro e w5 ⟨rfl, rfl⟩)
              | go_in)
            go_quiet (with_reducible exact Calls.quiet_of_same (hrb _))
            have hcn1 := hcn.1
            have hcn2 := hcn.2
            have hstep : ∀ g : Int → Int, sumKG g D ((KS D).take (0 + 1)) = sumKG g D ((KS D).take 0) + g (balW es key) := fun g => by
              rw [List.take_succ_eq_append_getElem hlt, sumKG_snoc]
              have : gnum g (D.atKey (.string ((KS D)[0]'hlt)) (.lit (.int .i64 0))) = g (balW es key) := by
                rw [← hbal key, ← hkd.out]; rfl
              rw [this]
            have HS : Hid8 (∀ g : Int → Int, sumKG g D ((KS D).take (0 + 1)) = sumKG g D ((KS D).take 0) + g (balW es key)) := ⟨hstep⟩
            clear hstep hcn
            have hen := fun (W : World) (h : Below w.heap.size w W) => entries (bk.kept (grown_of_below h)) rfl hv (by omega) key
            have hlK : (es.filter (fun e => !delP key e)).length = cntN es key := hcn2
            rw [hlK] at hen
            by_cases hpos : balW es key > 0
            · go_wp2
              go_loopw [12, 13] (fun v12 v13 wx => ∃ c : Nat, v12 = .int .i64 ((((es.take c).filter (namedB key)).length : Nat) : Int) ∧ v13 = .int .i64 c ∧ c ≤ es.length ∧ RowV wx (.slice aw es.length cw) es ∧ wx.cell? ⟨g6, 0, none⟩ = some (.string key) ∧ Txts wx (some ⟨g6, 0, none⟩) (KS D) ∧ Below w.heap.size w wx) (fun _ x _ => es.length - (RowKit.intOf x).toNat)
              case atStart => exact ⟨0, rfl, rfl, by omega, rw', hc6', ht, below_drewN hbr _⟩
              case round =>
                clear rw' hc6' ht hbr hrb hbK bkr
                obtain ⟨c, rfl, rfl, hc, rw3, hc6', ht3, hbx⟩ := hrel
                by_cases hlc : c < es.length
                · obtain ⟨gw, cgw, ew, hgw, d0, d1, d2, d3, d4⟩ := rw3.at c hlc
                  cases ew
                  have hfl : ((es.take (c + 1)).filter (namedB key)).length = ((es.take c).filter (namedB key)).length + (if namedB key (es[c]'hlc) = true then 1 else 0) := by
                    rw [List.take_succ_eq_append_getElem hlc, List.filter_append]
                    cases hq : namedB key (es[c]'hlc) <;> simp [hq]
                  have HF : Hid8 (((es.take (c + 1)).filter (namedB key)).length = ((es.take c).filter (namedB key)).length + (if namedB key (es[c]'hlc) = true then 1 else 0)) := ⟨hfl⟩
                  have hle1 : ((es.take c).filter (namedB key)).length ≤ c := Nat.le_trans (List.length_filter_le _ _) (by simp; omega)
                  clear hfl
                  obtain ⟨m0, HM⟩ : ∃ m0, Hid8 (((es.take c).filter (namedB key)).length = m0) := ⟨_, ⟨rfl⟩⟩
                  rw [HM.out] at hle1 ⊢
                  rw [HM.out] at HF
                  have e0 : (0 : Int) ≤ (c : Int) := by omega
                  have e1 : (c : Int) < (es.length : Int) := by omega
                  cases h1 : ((es[c]'hlc).db.toList == key.toList) with
                  | true =>
                    have hz : namedB key (es[c]'hlc) = true := by simp [namedB, h1]
                    go_wp2
                    go_quiet (fail)
                    go_wp2
                    go_roundw
                    case rel => exact ⟨c + 1, by rw [HF.out, if_pos hz]; simp, by simp, by omega, rw3, hc6', ht3, below_drewN hbx _⟩
                    case measure => simp [RowKit.intOf]; omega
                  | false =>
                    cases h2 : ((es[c]'hlc).cr.toList == key.toList) with
                    | true =>
                      have hz : namedB key (es[c]'hlc) = true := by simp [namedB, h1, h2]
                      go_wp2
                      go_quiet (fail)
                      go_wp2
                      go_roundw
                      case rel => exact ⟨c + 1, by rw [HF.out, if_pos hz]; simp, by simp, by omega, rw3, hc6', ht3, below_drewN hbx _⟩
                      case measure => simp [RowKit.intOf]; omega
                    | false =>
                      have hz : ¬ namedB key (es[c]'hlc) = true := by simp [namedB, h1, h2]
                      go_wp2
                      go_quiet (fail)
                      go_wp2
                      go_roundw
                      case rel => exact ⟨c + 1, by rw [HF.out, if_neg hz]; simp, by simp, by omega, rw3, hc6', ht3, below_drewN hbx _⟩
                      case measure => simp [RowKit.intOf]; omega
                · obtain rfl : c = es.length := by omega
                  rw [show ((es.take es.length).filter (namedB key)).length = cntN es key by rw [List.take_length]; rfl]
                  have hn0 : ((cntN es key : Nat) : Int) ≠ 0 := by omega
                  have hn1 : (((cntN es key : Nat) : Int) == 0) = false := beq_eq_false_iff_ne.2 hn0
                  have hE := hen _ hbx
                  obtain ⟨cn, HC⟩ : ∃ cn, Hid8 (cntN es key = cn) := ⟨_, ⟨rfl⟩⟩
                  rw [HC.out] at hn0 hn1 hE ⊢
                  clear hen hcn1 hcn2 hlK hlc
                  go_wp2_with (first
                    | (go_at_call 18; with_reducible refine hE.mono ?_; rintro e w8 ⟨v8, rfl, hb8, ⟨a8, c8, rfl⟩, _⟩)
                    | go_in)
                  go_roundw
                  case rel =>
                    refine ⟨_, _, 0 + 1, rfl, rfl, by simp, by omega, ⟨?_⟩, rw3.below hb8, ht3.kept hb8, hbx.trans (hb8.mono hbx.size)⟩
                    have hx1 := HS.out posF
                    have hx2 := HS.out negF
                    obtain ⟨y1, y2, y3, y4⟩ := hpq.out
                    rw [show posF (balW es key) = balW es key from if_pos hpos] at hx1
                    rw [show negF (balW es key) = 0 from if_pos hpos] at hx2
                    exact ⟨wrap64_wf _, y2, by rw [hx1]; unfold wrap64; omega, by rw [hx2]; omega⟩
                  case measure => simp [RowKit.intOf]; omega
            · go_wp2
              go_loopw [12, 13] (fun v12 v13 wx => ∃ c : Nat, v12 = .int .i64 ((((es.take c).filter (namedB key)).length : Nat) : Int) ∧ v13 = .int .i64 c ∧ c ≤ es.length ∧ RowV wx (.slice aw es.length cw) es ∧ wx.cell? ⟨g6, 0, none⟩ = some (.string key) ∧ Txts wx (some ⟨g6, 0, none⟩) (KS D) ∧ Below w.heap.size w wx) (fun _ x _ => es.length - (RowKit.intOf x).toNat)
              case atStart => exact ⟨0, rfl, rfl, by omega, rw', hc6', ht, below_drewN hbr _⟩
              case round =>
                clear rw' hc6' ht hbr hrb hbK bkr
                obtain ⟨c, rfl, rfl, hc, rw3, hc6', ht3, hbx⟩ := hrel
                by_cases hlc : c < es.length
                · obtain ⟨gw, cgw, ew, hgw, d0, d1, d2, d3, d4⟩ := rw3.at c hlc
                  cases ew
                  have hfl : ((es.take (c + 1)).filter (namedB key)).length = ((es.take c).filter (namedB key)).length + (if namedB key (es[c]'hlc) = true then 1 else 0) := by
                    rw [List.take_succ_eq_append_getElem hlc, List.filter_append]
                    cases hq : namedB key (es[c]'hlc) <;> simp [hq]
                  have HF : Hid8 (((es.take (c + 1)).filter (namedB key)).length = ((es.take c).filter (namedB key)).length + (if namedB key (es[c]'hlc) = true then 1 else 0)) := ⟨hfl⟩
                  have hle1 : ((es.take c).filter (namedB key)).length ≤ c := Nat.le_trans (List.length_filter_le _ _) (by simp; omega)
                  clear hfl
                  obtain ⟨m0, HM⟩ : ∃ m0, Hid8 (((es.take c).filter (namedB key)).length = m0) := ⟨_, ⟨rfl⟩⟩
                  rw [HM.out] at hle1 ⊢
                  rw [HM.out] at HF
                  have e0 : (0 : Int) ≤ (c : Int) := by omega
                  have e1 : (c : Int) < (es.length : Int) := by omega
                  cases h1 : ((es[c]'hlc).db.toList == key.toList) with
                  | true =>
                    have hz : namedB key (es[c]'hlc) = true := by simp [namedB, h1]
                    go_wp2
                    go_quiet (fail)
                    go_wp2
                    go_roundw
                    case rel => exact ⟨c + 1, by rw [HF.out, if_pos hz]; simp, by simp, by omega, rw3, hc6', ht3, below_drewN hbx _⟩
                    case measure => simp [RowKit.intOf]; omega
                  | false =>
                    cases h2 : ((es[c]'hlc).cr.toList == key.toList) with
                    | true =>
                      have hz : namedB key (es[c]'hlc) = true := by simp [namedB, h1, h2]
                      go_wp2
                      go_quiet (fail)
                      go_wp2
                      go_roundw
                      case rel => exact ⟨c + 1, by rw [HF.out, if_pos hz]; simp, by simp, by omega, rw3, hc6', ht3, below_drewN hbx _⟩
                      case measure => simp [RowKit.intOf]; omega
                    | false =>
                      have hz : ¬ namedB key (es[c]'hlc) = true := by simp [namedB, h1, h2]
                      go_wp2
                      go_quiet (fail)
                      go_wp2
                      go_roundw
                      case rel => exact ⟨c + 1, by rw [HF.out, if_neg hz]; simp, by simp, by omega, rw3, hc6', ht3, below_drewN hbx _⟩
                      case measure => simp [RowKit.intOf]; omega
                · obtain rfl : c = es.length := by omega
                  rw [show ((es.take es.length).filter (namedB key)).length = cntN es key by rw [List.take_length]; rfl]
                  have hn0 : ((cntN es key : Nat) : Int) ≠ 0 := by omega
                  have hn1 : (((cntN es key : Nat) : Int) == 0) = false := beq_eq_false_iff_ne.2 hn0
                  have hE := hen _ hbx
                  obtain ⟨cn, HC⟩ : ∃ cn, Hid8 (cntN es key = cn) := ⟨_, ⟨rfl⟩⟩
                  rw [HC.out] at hn0 hn1 hE ⊢
                  clear hen hcn1 hcn2 hlK hlc
                  go_wp2_with (first
                    | (go_at_call 18; with_reducible refine hE.mono ?_; rintro e w8 ⟨v8, rfl, hb8, ⟨a8, c8, rfl⟩, _⟩)
                    | go_in)
                  go_roundw
                  case rel =>
                    refine ⟨_, _, 0 + 1, rfl, rfl, by simp, by omega, ⟨?_⟩, rw3.below hb8, ht3.kept hb8, hbx.trans (hb8.mono hbx.size)⟩
                    have hx1 := HS.out posF
                    have hx2 := HS.out negF
                    obtain ⟨y1, y2, y3, y4⟩ := hpq.out
                    rw [show posF (balW es key) = 0 from if_neg (show ¬ balW es key > 0 by omega)] at hx1
                    rw [show negF (balW es key) = - balW es key from if_neg (show ¬ balW es key > 0 by omega)] at hx2
                    exact ⟨y1, wrap64_wf _, by rw [hx1]; omega, by rw [hx2]; unfold wrap64; omega⟩
                  case measure => simp [RowKit.intOf]; omega
          · obtain ⟨k, HI⟩ : ∃ k, Hid8 (i = k + 1) := ⟨i - 1, ⟨by omega⟩⟩
            have hkl2 : k < (KS D).length := by have := HI.out; omega
            obtain ⟨g6', e6, hg6', hc5⟩ := ht k hkl2
            cases e6
            have hgd5 : (KS D).getD k [] = (KS D)[k]'hkl2 := by simp [hkl2]
            rw [hgd5] at hc5
            obtain ⟨prev, HP⟩ : ∃ prev : ByteArray, Hid8 (prev = ⟨((KS D)[k]'hkl2).toArray⟩) := ⟨_, ⟨rfl⟩⟩
            have hc5' : wr.cell? ⟨g6, k, none⟩ = some (.string prev) := by rw [HP.out]; exact hc5
            have hc7 : wr.cell? ⟨g6, i - 1, none⟩ = some (.string prev) := by rw [show i - 1 = k by have := HI.out; omega]; exact hc5'
            have b2 : (0 : Int) ≤ (k : Int) := by omega
            have b3 : (k : Int) < ((KS D).length : Int) := by omega
            have b4 : (i : Int) > 0 := by omega
            have b4' : decide ((i : Int) > 0) = true := decide_eq_true b4
            have hKS : (KS D).length ≤ 1000 := by
              have e : (KS D).length = Maps.size D := by unfold KS; rw [List.length_mergeSort, strKeys_length]
              have := bk.map.size_le
              omega
            have hle : (Op.bytesLess key.toList prev.toList || key.toList == prev.toList) = false := by
              have h1 := hsort k (by have := HI.out; omega)
              rw [ByteArray.toList_eq, ByteArray.toList_eq, HP.out, HK.out]
              have e1 : (KS D)[i]'hlt = (KS D)[k + 1]'(by have := HI.out; omega) := by congr 1; exact HI.out
              show (Op.bytesLess ((KS D)[i]'hlt) ((KS D)[k]'hkl2) || ((KS D)[i]'hlt) == ((KS D)[k]'hkl2)) = false
              rw [e1]
              exact leq_false h1
            have hwk : wrap64 ((i : Int) - 1) = (k : Int) := by have := HI.out; unfold wrap64; omega
            clear hc5 hgd5
            go_wp2_with (first
              | (go_at_call 10; with_reducible refine hbK.mono ?_; rintro e w5 ⟨rfl, rfl⟩)
              | go_in)
            go_quiet (with_reducible exact Calls.quiet_of_same (hrb _))
            have hcn1 := hcn.1
            have hcn2 := hcn.2
            have hstep : ∀ g : Int → Int, sumKG g D ((KS D).take (i + 1)) = sumKG g D ((KS D).take i) + g (balW es key) := fun g => by
              rw [List.take_succ_eq_append_getElem hlt, sumKG_snoc]
              have : gnum g (D.atKey (.string ((KS D)[i]'hlt)) (.lit (.int .i64 0))) = g (balW es key) := by
                rw [← hbal key, ← hkd.out]; rfl
              rw [this]
            have HS : Hid8 (∀ g : Int → Int, sumKG g D ((KS D).take (i + 1)) = sumKG g D ((KS D).take i) + g (balW es key)) := ⟨hstep⟩
            clear hstep hcn
            have hen := fun (W : World) (h : Below w.heap.size w W) => entries (bk.kept (grown_of_below h)) rfl hv (by omega) key
            have hlK : (es.filter (fun e => !delP key e)).length = cntN es key := hcn2
            rw [hlK] at hen
            by_cases hpos : balW es key > 0
            · go_wp2
              go_loopw [12, 13] (fun v12 v13 wx => ∃ c : Nat, v12 = .int .i64 ((((es.take c).filter (namedB key)).length : Nat) : Int) ∧ v13 = .int .i64 c ∧ c ≤ es.length ∧ RowV wx (.slice aw es.length cw) es ∧ wx.cell? ⟨g6, i, none⟩ = some (.string key) ∧ Txts wx (some ⟨g6, 0, none⟩) (KS D) ∧ Below w.heap.size w wx) (fun _ x _ => es.length - (RowKit.intOf x).toNat)
              case atStart => exact ⟨0, rfl, rfl, by omega, rw', hc6', ht, below_drewN hbr _⟩
              case round =>
                clear rw' hc6' ht hbr hrb hbK bkr
                obtain ⟨c, rfl, rfl, hc, rw3, hc6', ht3, hbx⟩ := hrel
                by_cases hlc : c < es.length
                · obtain ⟨gw, cgw, ew, hgw, d0, d1, d2, d3, d4⟩ := rw3.at c hlc
                  cases ew
                  have hfl : ((es.take (c + 1)).filter (namedB key)).length = ((es.take c).filter (namedB key)).length + (if namedB key (es[c]'hlc) = true then 1 else 0) := by
                    rw [List.take_succ_eq_append_getElem hlc, List.filter_append]
                    cases hq : namedB key (es[c]'hlc) <;> simp [hq]
                  have HF : Hid8 (((es.take (c + 1)).filter (namedB key)).length = ((es.take c).filter (namedB key)).length + (if namedB key (es[c]'hlc) = true then 1 else 0)) := ⟨hfl⟩
                  have hle1 : ((es.take c).filter (namedB key)).length ≤ c := Nat.le_trans (List.length_filter_le _ _) (by simp; omega)
                  clear hfl
                  obtain ⟨m0, HM⟩ : ∃ m0, Hid8 (((es.take c).filter (namedB key)).length = m0) := ⟨_, ⟨rfl⟩⟩
                  rw [HM.out] at hle1 ⊢
                  rw [HM.out] at HF
                  have e0 : (0 : Int) ≤ (c : Int) := by omega
                  have e1 : (c : Int) < (es.length : Int) := by omega
                  cases h1 : ((es[c]'hlc).db.toList == key.toList) with
                  | true =>
                    have hz : namedB key (es[c]'hlc) = true := by simp [namedB, h1]
                    go_wp2
                    go_quiet (fail)
                    go_wp2
                    go_roundw
                    case rel => exact ⟨c + 1, by rw [HF.out, if_pos hz]; simp, by simp, by omega, rw3, hc6', ht3, below_drewN hbx _⟩
                    case measure => simp [RowKit.intOf]; omega
                  | false =>
                    cases h2 : ((es[c]'hlc).cr.toList == key.toList) with
                    | true =>
                      have hz : namedB key (es[c]'hlc) = true := by simp [namedB, h1, h2]
                      go_wp2
                      go_quiet (fail)
                      go_wp2
                      go_roundw
                      case rel => exact ⟨c + 1, by rw [HF.out, if_pos hz]; simp, by simp, by omega, rw3, hc6', ht3, below_drewN hbx _⟩
                      case measure => simp [RowKit.intOf]; omega
                    | false =>
                      have hz : ¬ namedB key (es[c]'hlc) = true := by simp [namedB, h1, h2]
                      go_wp2
                      go_quiet (fail)
                      go_wp2
                      go_roundw
                      case rel => exact ⟨c + 1, by rw [HF.out, if_neg hz]; simp, by simp, by omega, rw3, hc6', ht3, below_drewN hbx _⟩
                      case measure => simp [RowKit.intOf]; omega
                · obtain rfl : c = es.length := by omega
                  rw [show ((es.take es.length).filter (namedB key)).length = cntN es key by rw [List.take_length]; rfl]
                  have hn0 : ((cntN es key : Nat) : Int) ≠ 0 := by omega
                  have hn1 : (((cntN es key : Nat) : Int) == 0) = false := beq_eq_false_iff_ne.2 hn0
                  have hE := hen _ hbx
                  obtain ⟨cn, HC⟩ : ∃ cn, Hid8 (cntN es key = cn) := ⟨_, ⟨rfl⟩⟩
                  rw [HC.out] at hn0 hn1 hE ⊢
                  clear hen hcn1 hcn2 hlK hlc
                  go_wp2_with (first
                    | (go_at_call 18; with_reducible refine hE.mono ?_; rintro e w8 ⟨v8, rfl, hb8, ⟨a8, c8, rfl⟩, _⟩)
                    | go_in)
                  go_roundw
                  case rel =>
                    refine ⟨_, _, i + 1, rfl, rfl, by simp, by omega, ⟨?_⟩, rw3.below hb8, ht3.kept hb8, hbx.trans (hb8.mono hbx.size)⟩
                    have hx1 := HS.out posF
                    have hx2 := HS.out negF
                    obtain ⟨y1, y2, y3, y4⟩ := hpq.out
                    rw [show posF (balW es key) = balW es key from if_pos hpos] at hx1
                    rw [show negF (balW es key) = 0 from if_pos hpos] at hx2
                    exact ⟨wrap64_wf _, y2, by rw [hx1]; unfold wrap64; omega, by rw [hx2]; omega⟩
                  case measure => simp [RowKit.intOf]; omega
            · go_wp2
              go_loopw [12, 13] (fun v12 v13 wx => ∃ c : Nat, v12 = .int .i64 ((((es.take c).filter (namedB key)).length : Nat) : Int) ∧ v13 = .int .i64 c ∧ c ≤ es.length ∧ RowV wx (.slice aw es.length cw) es ∧ wx.cell? ⟨g6, i, none⟩ = some (.string key) ∧ Txts wx (some ⟨g6, 0, none⟩) (KS D) ∧ Below w.heap.size w wx) (fun _ x _ => es.length - (RowKit.intOf x).toNat)
              case atStart => exact ⟨0, rfl, rfl, by omega, rw', hc6', ht, below_drewN hbr _⟩
              case round =>
                clear rw' hc6' ht hbr hrb hbK bkr
                obtain ⟨c, rfl, rfl, hc, rw3, hc6', ht3, hbx⟩ := hrel
                by_cases hlc : c < es.length
                · obtain ⟨gw, cgw, ew, hgw, d0, d1, d2, d3, d4⟩ := rw3.at c hlc
                  cases ew
                  have hfl : ((es.take (c + 1)).filter (namedB key)).length = ((es.take c).filter (namedB key)).length + (if namedB key (es[c]'hlc) = true then 1 else 0) := by
                    rw [List.take_succ_eq_append_getElem hlc, List.filter_append]
                    cases hq : namedB key (es[c]'hlc) <;> simp [hq]
                  have HF : Hid8 (((es.take (c + 1)).filter (namedB key)).length = ((es.take c).filter (namedB key)).length + (if namedB key (es[c]'hlc) = true then 1 else 0)) := ⟨hfl⟩
                  have hle1 : ((es.take c).filter (namedB key)).length ≤ c := Nat.le_trans (List.length_filter_le _ _) (by simp; omega)
                  clear hfl
                  obtain ⟨m0, HM⟩ : ∃ m0, Hid8 (((es.take c).filter (namedB key)).length = m0) := ⟨_, ⟨rfl⟩⟩
                  rw [HM.out] at hle1 ⊢
                  rw [HM.out] at HF
                  have e0 : (0 : Int) ≤ (c : Int) := by omega
                  have e1 : (c : Int) < (es.length : Int) := by omega
                  cases h1 : ((es[c]'hlc).db.toList == key.toList) with
                  | true =>
                    have hz : namedB key (es[c]'hlc) = true := by simp [namedB, h1]
                    go_wp2
                    go_quiet (fail)
                    go_wp2
                    go_roundw
                    case rel => exact ⟨c + 1, by rw [HF.out, if_pos hz]; simp, by simp, by omega, rw3, hc6', ht3, below_drewN hbx _⟩
                    case measure => simp [RowKit.intOf]; omega
                  | false =>
                    cases h2 : ((es[c]'hlc).cr.toList == key.toList) with
                    | true =>
                      have hz : namedB key (es[c]'hlc) = true := by simp [namedB, h1, h2]
                      go_wp2
                      go_quiet (fail)
                      go_wp2
                      go_roundw
                      case rel => exact ⟨c + 1, by rw [HF.out, if_pos hz]; simp, by simp, by omega, rw3, hc6', ht3, below_drewN hbx _⟩
                      case measure => simp [RowKit.intOf]; omega
                    | false =>
                      have hz : ¬ namedB key (es[c]'hlc) = true := by simp [namedB, h1, h2]
                      go_wp2
                      go_quiet (fail)
                      go_wp2
                      go_roundw
                      case rel => exact ⟨c + 1, by rw [HF.out, if_neg hz]; simp, by simp, by omega, rw3, hc6', ht3, below_drewN hbx _⟩
                      case measure => simp [RowKit.intOf]; omega
                · obtain rfl : c = es.length := by omega
                  rw [show ((es.take es.length).filter (namedB key)).length = cntN es key by rw [List.take_length]; rfl]
                  have hn0 : ((cntN es key : Nat) : Int) ≠ 0 := by omega
                  have hn1 : (((cntN es key : Nat) : Int) == 0) = false := beq_eq_false_iff_ne.2 hn0
                  have hE := hen _ hbx
                  obtain ⟨cn, HC⟩ : ∃ cn, Hid8 (cntN es key = cn) := ⟨_, ⟨rfl⟩⟩
                  rw [HC.out] at hn0 hn1 hE ⊢
                  clear hen hcn1 hcn2 hlK hlc
                  go_wp2_with (first
                    | (go_at_call 18; with_reducible refine hE.mono ?_; rintro e w8 ⟨v8, rfl, hb8, ⟨a8, c8, rfl⟩, _⟩)
                    | go_in)
                  go_roundw
                  case rel =>
                    refine ⟨_, _, i + 1, rfl, rfl, by simp, by omega, ⟨?_⟩, rw3.below hb8, ht3.kept hb8, hbx.trans (hb8.mono hbx.size)⟩
                    have hx1 := HS.out posF
                    have hx2 := HS.out negF
                    obtain ⟨y1, y2, y3, y4⟩ := hpq.out
                    rw [show posF (balW es key) = 0 from if_neg (show ¬ balW es key > 0 by omega)] at hx1
                    rw [show negF (balW es key) = - balW es key from if_neg (show ¬ balW es key > 0 by omega)] at hx2
                    exact ⟨y1, wrap64_wf _, by rw [hx1]; omega, by rw [hx2]; unfold wrap64; omega⟩
                  case measure => simp [RowKit.intOf]; omega
        · --EXIT
          obtain rfl : i = (KS D).length := by omega
          have bkr := bk.kept (grown_of_below hbr)
          obtain ⟨y1, y2, y3, y4⟩ := hpq.out
          rw [List.take_length] at y3 y4
          have hPs := KS_tot posF (by decide) bkr.map
          have hQs := KS_tot negF (by decide) bkr.map
          rw [hPs] at y3
          rw [hQs] at y4
          have hd2 := tot_split D
          have z1 := wf_bd y1
          have z2 := wf_bd y2
          have hqp : q = p := by omega
          subst hqp
          have hT : Calls Try.prog 11 #[.pointer (some ⟨sb, 0, none⟩)] wr fun e w' => e = .returned (.tuple #[.int .i64 q, .int .i64 q]) ∧ wr.grownBy w' none :=
            (trial2 sb bm n D wr bkr.c1 bkr.map).mono fun e w' ⟨u, d, he, hwu, hwd, hu, hd, hg9⟩ => by
              have z3 := wf_bd hwu
              have z4 := wf_bd hwd
              have e1 : u = q := by omega
              have e2 : d = q := by omega
              rw [e1, e2] at he
              exact ⟨he, hg9⟩
          clear hPs hQs hd2 z1 z2 y1 y2 y3 y4 hpq htot
          go_wp2_with (first
            | (go_at_call 11; with_reducible refine hT.mono ?_; rintro e w9 ⟨rfl, hg9⟩)
            | go_in)
          go_ret
          exact ⟨by simp, hbr.grown hg9 hbr.size (fun k hk => by cases hk)⟩
end Go.Bk
