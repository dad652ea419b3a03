/-
  DERIVED. MADE BY PROGRAM (lay-iter.mjs) off ytkdbjildalhoeaagreat.cut.gsa: THE SHELF's CONTRACTS ON 'slices.Sorted(maps.Keys(m))' LAID AT THIS DUMP: 1 map type. NO WALK OF THE LIBRARY's TEXT: each is one application of a contract over any P and ρ (Derived/Shelf/SlIter/, Derived/Shelf/SortM/).
-/
import Derived.Shelf.SlIter.Nil
import Derived.Shelf.SortM.Plain
import Derived.Shelf.SortM.SortNone
import Derived.Ground.GgzProg
import Derived.Ground.SlgmProg
import Derived.Test.YtkdbjildalhoeaaGreatProg
namespace Go.Proofs
open Go.RowKit Go.Maps Go.Sort Go.Shelf

-- maps.Keys[map[string]bool,string,bool] (function 45; its iterator 87) · slices.Sorted[string] (44) · slices.Sort[[]string,string] (86) · the map's type 82, the keys' 9
def Tryz.keys45_ren : Go.Shelf.Ren := ⟨fun | 7 => 45 | 10 => 87 | n => n, fun | 23 => 82 | 26 => 9 | 3 => 4 | 28 => 98 | 0 => 0 | 27 => 97 | 33 => 83 | 4 => 4 | n => n, fun | n => n⟩
theorem Tryz.keys45 : Go.Proofs.SlLaysZ.n7 Tryz.prog Tryz.keys45_ren := {
  mixed := by kernel_rfl,
  f7 := ⟨Tryz.f45.name, by decide, Tryz.func45.trans (congrArg some (by kernel_rfl))⟩,
  f10 := ⟨Tryz.f87.name, by decide, Tryz.func87.trans (congrArg some (by kernel_rfl))⟩,
  t0 := Tryz.underlying0,
  a0 := Tryz.isAgg0,
  z0 := Tryz.sizeOf0,
  v0 := Tryz.zeroValue0,
  t4 := Tryz.underlying4,
  a4 := Tryz.isAgg4,
  z4 := Tryz.sizeOf4,
  v4 := Tryz.zeroValue4,
  t23 := Tryz.underlying82,
  a23 := Tryz.isAgg82,
  z23 := Tryz.sizeOf82,
  v23 := Tryz.zeroValue82,
  t26 := Tryz.underlying9,
  a26 := Tryz.isAgg9,
  z26 := Tryz.sizeOf9,
  v26 := Tryz.zeroValue9,
  t27 := Tryz.underlying97,
  a27 := Tryz.isAgg97,
  z27 := Tryz.sizeOf97,
  v27 := Tryz.zeroValue97,
  t28 := Tryz.underlying98,
  a28 := Tryz.isAgg98,
  z28 := Tryz.sizeOf98,
  v28 := Tryz.zeroValue98,
  t33 := Tryz.underlying83,
  a33 := Tryz.isAgg83,
  z33 := Tryz.sizeOf83,
  v33 := Tryz.zeroValue83 }
def Tryz.sorted44_ren : Go.Shelf.Ren := ⟨fun | 6 => 44 | 8 => 85 | 9 => 86 | 11 => 151 | 13 => 153 | 12 => 152 | 23 => 220 | 24 => 221 | 14 => 211 | 15 => 212 | 16 => 213 | 17 => 214 | 18 => 215 | 19 => 216 | 20 => 217 | 21 => 218 | 22 => 219 | 25 => 284 | 26 => 285 | 27 => 286 | 28 => 287 | 29 => 288 | 30 => 289 | 31 => 321 | n => n, fun | 26 => 9 | 28 => 98 | 24 => 32 | 0 => 0 | 3 => 3 | 37 => 243 | 48 => 282 | 50 => 202 | 4 => 4 | 40 => 303 | 39 => 302 | 45 => 129 | 5 => 5 | 9 => 9 | 51 => 361 | 55 => 365 | 57 => 387 | 58 => 388 | 33 => 83 | n => n, fun | n => n⟩
theorem Tryz.sorted44 : Go.Proofs.SlLaysZ.n6 Tryz.prog Tryz.sorted44_ren := {
  mixed := by kernel_rfl,
  f6 := ⟨Tryz.f44.name, by decide, Tryz.func44.trans (congrArg some (by kernel_rfl))⟩,
  f8 := ⟨Tryz.f85.name, by decide, Tryz.func85.trans (congrArg some (by kernel_rfl))⟩,
  f11 := ⟨Tryz.f151.name, by decide, Tryz.func151.trans (congrArg some (by kernel_rfl))⟩,
  t0 := Tryz.underlying0,
  a0 := Tryz.isAgg0,
  z0 := Tryz.sizeOf0,
  v0 := Tryz.zeroValue0,
  t24 := Tryz.underlying32,
  a24 := Tryz.isAgg32,
  z24 := Tryz.sizeOf32,
  v24 := Tryz.zeroValue32,
  t26 := Tryz.underlying9,
  a26 := Tryz.isAgg9,
  z26 := Tryz.sizeOf9,
  v26 := Tryz.zeroValue9,
  t28 := Tryz.underlying98,
  a28 := Tryz.isAgg98,
  z28 := Tryz.sizeOf98,
  v28 := Tryz.zeroValue98,
  i26 := by kernel_rfl }
def Tryz.sort86_ren : Go.Shelf.Ren := ⟨fun | 6 => 86 | 8 => 153 | 9 => 152 | 19 => 220 | 20 => 221 | 21 => 211 | 22 => 212 | 23 => 213 | 24 => 214 | 25 => 215 | 26 => 216 | 27 => 217 | 28 => 218 | 29 => 219 | 36 => 284 | 31 => 285 | 32 => 286 | 37 => 287 | 38 => 288 | 39 => 289 | 41 => 321 | n => n, fun | 27 => 32 | 29 => 9 | 3 => 3 | 32 => 243 | 26 => 32 | 0 => 0 | 44 => 282 | 46 => 202 | 4 => 4 | 36 => 303 | 35 => 302 | 41 => 129 | 5 => 5 | 9 => 9 | 53 => 361 | 57 => 365 | 63 => 387 | 64 => 388 | n => n, fun | n => n⟩
theorem Tryz.sort86 : Go.Proofs.SlLaysM.n6 Tryz.prog Tryz.sort86_ren := {
  mixed := by kernel_rfl,
  f6 := ⟨Tryz.f86.name, by decide, Tryz.func86.trans (congrArg some (by kernel_rfl))⟩,
  f8 := Tryz.func153.trans (congrArg some (by kernel_rfl)),
  f9 := ⟨Tryz.f152.name, by decide, Tryz.func152.trans (congrArg some (by kernel_rfl))⟩,
  f19 := Tryz.func220.trans (congrArg some (by kernel_rfl)),
  f20 := Tryz.func221.trans (congrArg some (by kernel_rfl)),
  f21 := ⟨Tryz.f211.name, by decide, Tryz.func211.trans (congrArg some (by kernel_rfl))⟩,
  f22 := ⟨Tryz.f212.name, by decide, Tryz.func212.trans (congrArg some (by kernel_rfl))⟩,
  f23 := ⟨Tryz.f213.name, by decide, Tryz.func213.trans (congrArg some (by kernel_rfl))⟩,
  f24 := ⟨Tryz.f214.name, by decide, Tryz.func214.trans (congrArg some (by kernel_rfl))⟩,
  f25 := ⟨Tryz.f215.name, by decide, Tryz.func215.trans (congrArg some (by kernel_rfl))⟩,
  f26 := ⟨Tryz.f216.name, by decide, Tryz.func216.trans (congrArg some (by kernel_rfl))⟩,
  f27 := ⟨Tryz.f217.name, by decide, Tryz.func217.trans (congrArg some (by kernel_rfl))⟩,
  f28 := ⟨Tryz.f218.name, by decide, Tryz.func218.trans (congrArg some (by kernel_rfl))⟩,
  f29 := ⟨Tryz.f219.name, by decide, Tryz.func219.trans (congrArg some (by kernel_rfl))⟩,
  f31 := Tryz.func285.trans (congrArg some (by kernel_rfl)),
  f32 := Tryz.func286.trans (congrArg some (by kernel_rfl)),
  f36 := ⟨Tryz.f284.name, by decide, Tryz.func284.trans (congrArg some (by kernel_rfl))⟩,
  f37 := ⟨Tryz.f287.name, by decide, Tryz.func287.trans (congrArg some (by kernel_rfl))⟩,
  f38 := ⟨Tryz.f288.name, by decide, Tryz.func288.trans (congrArg some (by kernel_rfl))⟩,
  f39 := ⟨Tryz.f289.name, by decide, Tryz.func289.trans (congrArg some (by kernel_rfl))⟩,
  f41 := ⟨Tryz.f321.name, by decide, Tryz.func321.trans (congrArg some (by kernel_rfl))⟩,
  t0 := Tryz.underlying0,
  a0 := Tryz.isAgg0,
  z0 := Tryz.sizeOf0,
  v0 := Tryz.zeroValue0,
  t3 := Tryz.underlying3,
  a3 := Tryz.isAgg3,
  z3 := Tryz.sizeOf3,
  v3 := Tryz.zeroValue3,
  t4 := Tryz.underlying4,
  a4 := Tryz.isAgg4,
  z4 := Tryz.sizeOf4,
  v4 := Tryz.zeroValue4,
  t5 := Tryz.underlying5,
  a5 := Tryz.isAgg5,
  z5 := Tryz.sizeOf5,
  v5 := Tryz.zeroValue5,
  t9 := Tryz.underlying9,
  a9 := Tryz.isAgg9,
  z9 := Tryz.sizeOf9,
  v9 := Tryz.zeroValue9,
  t26 := Tryz.underlying32,
  a26 := Tryz.isAgg32,
  z26 := Tryz.sizeOf32,
  v26 := Tryz.zeroValue32,
  t27 := Tryz.underlying32,
  a27 := Tryz.isAgg32,
  z27 := Tryz.sizeOf32,
  v27 := Tryz.zeroValue32,
  t29 := Tryz.underlying9,
  a29 := Tryz.isAgg9,
  z29 := Tryz.sizeOf9,
  v29 := Tryz.zeroValue9,
  t32 := Tryz.underlying243,
  a32 := Tryz.isAgg243,
  z32 := Tryz.sizeOf243,
  v32 := Tryz.zeroValue243,
  t35 := Tryz.underlying302,
  a35 := Tryz.isAgg302,
  z35 := Tryz.sizeOf302,
  v35 := Tryz.zeroValue302,
  t36 := Tryz.underlying303,
  a36 := Tryz.isAgg303,
  z36 := Tryz.sizeOf303,
  v36 := Tryz.zeroValue303,
  t41 := Tryz.underlying129,
  a41 := Tryz.isAgg129,
  z41 := Tryz.sizeOf129,
  v41 := Tryz.zeroValue129,
  t44 := Tryz.underlying282,
  a44 := Tryz.isAgg282,
  z44 := Tryz.sizeOf282,
  v44 := Tryz.zeroValue282,
  t46 := Tryz.underlying202,
  a46 := Tryz.isAgg202,
  z46 := Tryz.sizeOf202,
  v46 := Tryz.zeroValue202,
  t53 := Tryz.underlying361,
  a53 := Tryz.isAgg361,
  z53 := Tryz.sizeOf361,
  v53 := Tryz.zeroValue361,
  t57 := Tryz.underlying365,
  a57 := Tryz.isAgg365,
  z57 := Tryz.sizeOf365,
  v57 := Tryz.zeroValue365,
  t63 := Tryz.underlying387,
  a63 := Tryz.isAgg387,
  z63 := Tryz.sizeOf387,
  v63 := Tryz.zeroValue387,
  t64 := Tryz.underlying388,
  a64 := Tryz.isAgg388,
  z64 := Tryz.sizeOf388,
  v64 := Tryz.zeroValue388 }

/-- slices.Sort's two contracts at this dump, at the fence that asks nothing. -/
theorem Tryz.sorts44 (m : Nat) : AnyZ.SortsIn Tryz.prog Tryz.sorted44_ren Fence.wide m :=
  ⟨fun blk off cap ss W hH hblk hsz => callsIn_wide.2 (AnyM.slices_Sort_string Tryz.sort86 blk off cap ss W hH hblk hsz),
   fun p cap W => callsIn_wide.2 (AnyM.slices_Sort_string_none Tryz.sort86 p cap W)⟩

/-- **maps.Keys[map[string]bool,string,bool], at whatever map, the nil one too:** a function value over ONE NEW BLOCK, which holds the map. -/
theorem Tryz.maps_Keys_45 (mb : Option Nat) (W : World) : CallsIn Fence.wide 5 Tryz.prog 45 #[.map mb] W fun e w' => e = .returned (.func (.func 87) #[] #[.pointer (some ⟨W.heap.size, 0, none⟩)]) ∧ w' = W.alloc (.cells #[.map mb] 82) :=
  AnyZ.keys_in Tryz.keys45 Fence.wide 5 trivial rfl mb W

set_option maxHeartbeats 1000000 in
/-- **slices.Sorted[string] AT WHAT maps.Keys[map[string]bool,string,bool] HANDED BACK FOR A MAP THAT IS NOT nil** ('w': the world AHEAD of maps.Keys' call): A NEW SLICE THAT HOLDS THE MAP's KEYS, SORTED; nil just where it has none; nothing that lay before has turned. -/
theorem Tryz.slices_Sorted_keys_44_45 {H : Type} (b nn : Nat) (D0 : DataW H) (R : Value → Option (DataW H × List MemPlace)) (w : World) (hown : w.ownsMap Tryz.prog 9 R b nn D0) (hmax : Maps.size D0 ≤ maxLen) (hbytes : Maps.size D0 * 16 ≤ 140737488355328) :
    CallsIn Fence.wide 5 Tryz.prog 44 #[.func (.func 87) #[] #[.pointer (some ⟨w.heap.size, 0, none⟩)]] (w.alloc (.cells #[.map (some b)] 82)) fun e w' => ∃ (v : Value) (ss : List (List UInt8)), e = .returned v ∧ ss.Perm (strKeys D0) ∧
      w'.ownsRow (w.alloc (.cells #[.map (some b)] 82)).heap.size 9 1 v ss.length ((ss.mergeSort (fun x y => decide (x ≤ y))).map encStr) ∧ (v = .slice none 0 0 ↔ ss = []) ∧ Below (w.alloc (.cells #[.map (some b)] 82)).heap.size (w.alloc (.cells #[.map (some b)] 82)) w' := by
  have hbl := hown.lt
  have hseq : SeqGives Fence.wide 2 Tryz.prog 87 #[.pointer (some ⟨w.heap.size, 0, none⟩)] encStr (fun ss => ss.Perm (strKeys D0)) (Maps.size D0) (w.alloc (.cells #[.map (some b)] 82)) :=
    AnyZ.keys_gives (ρ := Tryz.keys45_ren) { Tryz.keys45 with } Fence.wide _ trivial rfl (by omega) w.heap.size b nn D0 _ (by simp) (by simp) (by
      obtain ⟨es, clock, hb, Ft, hs, hD⟩ := hown
      exact ⟨es, clock, (Below.heap_alloc _ _ b hbl).trans hb, Ft, hs, hD⟩)
  exact AnyZ.sorted_in Tryz.sorted44 Fence.wide 5 trivial trivial trivial trivial rfl (by omega) (Tryz.sorts44 _) (enters_of Tryz.func86 (by kernel_rfl) rfl) 87 #[.pointer (some ⟨w.heap.size, 0, none⟩)] trivial (enters_of Tryz.func87 (by kernel_rfl) rfl) _ _ hmax hbytes _ hseq

set_option maxHeartbeats 1000000 in
/-- **.. AND FOR THE nil MAP: nil.** -/
theorem Tryz.slices_Sorted_keys_nil_44_45 (w : World) :
    CallsIn Fence.wide 5 Tryz.prog 44 #[.func (.func 87) #[] #[.pointer (some ⟨w.heap.size, 0, none⟩)]] (w.alloc (.cells #[.map none] 82)) fun e w' => ∃ (v : Value) (ss : List (List UInt8)), e = .returned v ∧ ss = [] ∧
      w'.ownsRow (w.alloc (.cells #[.map none] 82)).heap.size 9 1 v ss.length ((ss.mergeSort (fun x y => decide (x ≤ y))).map encStr) ∧ (v = .slice none 0 0 ↔ ss = []) ∧ Below (w.alloc (.cells #[.map none] 82)).heap.size (w.alloc (.cells #[.map none] 82)) w' := by
  have hseq : SeqGives Fence.wide 2 Tryz.prog 87 #[.pointer (some ⟨w.heap.size, 0, none⟩)] encStr (fun ss : List (List UInt8) => ss = []) 0 (w.alloc (.cells #[.map none] 82)) :=
    AnyZ.keys_gives_nil (ρ := Tryz.keys45_ren) { Tryz.keys45 with } Fence.wide _ trivial rfl w.heap.size _ (by simp) (by simp)
  exact AnyZ.sorted_in Tryz.sorted44 Fence.wide 5 trivial trivial trivial trivial rfl (by omega) (Tryz.sorts44 _) (enters_of Tryz.func86 (by kernel_rfl) rfl) 87 #[.pointer (some ⟨w.heap.size, 0, none⟩)] trivial (enters_of Tryz.func87 (by kernel_rfl) rfl) _ 0 (Nat.zero_le _) (by omega) _ hseq

-- THE CALLER's WALK over 'slices.Sorted(maps.Keys(m))' (inside '(callsIn_wide (n := 6)).1'; 'have hfK : Fence.wide.fn 45 := trivial', 'have hfS : Fence.wide.fn 44 := trivial' ahead): THE TWO ARMS TO PASTE:
--   gi_wp2_with (first
--     | (gi_at_call 45; refine (Tryz.maps_Keys_45 _ _).mono ?_; rintro e w' ⟨rfl, rfl⟩)
--     | (gi_at_call 44; refine (Tryz.slices_Sorted_keys_44_45 b nn D0 R w hown hmax hbytes).mono ?_; rintro e w' ⟨v, ss, rfl, hS, hrow, hnil, hb⟩))


end Go.Proofs
