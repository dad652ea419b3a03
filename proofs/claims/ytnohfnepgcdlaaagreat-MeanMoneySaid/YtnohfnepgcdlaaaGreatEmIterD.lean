/-
  DERIVED. MADE BY PROGRAM (lay-iter.mjs) off ytnohfnepgcdlaaagreat.cut.gsa: THE SHELF's CONTRACTS ON 'slices.Sorted(maps.Keys(m))' LAID AT THIS DUMP: 1 map type. NO WALK OF THE LIBRARY's TEXT: each is one application of a contract over any P and ρ (Derived/Shelf/SlIter/, Derived/Shelf/SortM/).
-/
import Derived.Shelf.SlIter.Nil
import Derived.Shelf.SortM.Plain
import Derived.Shelf.SortM.SortNone
import Derived.Ground.GgzProg
import Derived.Ground.SlgmProg
import Derived.Test.YtnohfnepgcdlaaaGreatProg
namespace Go.Proofs
open Go.RowKit Go.Maps Go.Sort Go.Shelf

-- maps.Keys[map[string]bool,string,bool] (function 83; its iterator 104) · slices.Sorted[string] (82) · slices.Sort[[]string,string] (103) · the map's type 90, the keys' 9
def Tryz.keys83_ren : Go.Shelf.Ren := ⟨fun | 7 => 83 | 10 => 104 | n => n, fun | 23 => 90 | 26 => 9 | 3 => 4 | 28 => 129 | 0 => 0 | 27 => 128 | 33 => 91 | 4 => 4 | n => n, fun | n => n⟩
theorem Tryz.keys83 : Go.Proofs.SlLaysZ.n7 Tryz.prog Tryz.keys83_ren := {
  mixed := by kernel_rfl,
  f7 := ⟨Tryz.f83.name, by decide, Tryz.func83.trans (congrArg some (by kernel_rfl))⟩,
  f10 := ⟨Tryz.f104.name, by decide, Tryz.func104.trans (congrArg some (by kernel_rfl))⟩,
  t0 := Tryz.underlying0,
  a0 := Tryz.isAgg0,
  z0 := Tryz.sizeOf0,
  v0 := Tryz.zeroValue0,
  t4 := Tryz.underlying4,
  a4 := Tryz.isAgg4,
  z4 := Tryz.sizeOf4,
  v4 := Tryz.zeroValue4,
  t23 := Tryz.underlying90,
  a23 := Tryz.isAgg90,
  z23 := Tryz.sizeOf90,
  v23 := Tryz.zeroValue90,
  t26 := Tryz.underlying9,
  a26 := Tryz.isAgg9,
  z26 := Tryz.sizeOf9,
  v26 := Tryz.zeroValue9,
  t27 := Tryz.underlying128,
  a27 := Tryz.isAgg128,
  z27 := Tryz.sizeOf128,
  v27 := Tryz.zeroValue128,
  t28 := Tryz.underlying129,
  a28 := Tryz.isAgg129,
  z28 := Tryz.sizeOf129,
  v28 := Tryz.zeroValue129,
  t33 := Tryz.underlying91,
  a33 := Tryz.isAgg91,
  z33 := Tryz.sizeOf91,
  v33 := Tryz.zeroValue91 }
def Tryz.sorted82_ren : Go.Shelf.Ren := ⟨fun | 6 => 82 | 8 => 102 | 9 => 103 | 11 => 118 | 13 => 120 | 12 => 119 | 23 => 140 | 24 => 141 | 14 => 131 | 15 => 132 | 16 => 133 | 17 => 134 | 18 => 135 | 19 => 136 | 20 => 137 | 21 => 138 | 22 => 139 | 25 => 145 | 26 => 146 | 27 => 147 | 28 => 148 | 29 => 149 | 30 => 150 | 31 => 151 | n => n, fun | 26 => 9 | 28 => 129 | 24 => 51 | 0 => 0 | 3 => 3 | 37 => 155 | 48 => 192 | 50 => 139 | 4 => 4 | 40 => 185 | 39 => 184 | 45 => 145 | 5 => 5 | 9 => 9 | 51 => 195 | 55 => 199 | 57 => 201 | 58 => 202 | 33 => 91 | n => n, fun | n => n⟩
theorem Tryz.sorted82 : Go.Proofs.SlLaysZ.n6 Tryz.prog Tryz.sorted82_ren := {
  mixed := by kernel_rfl,
  f6 := ⟨Tryz.f82.name, by decide, Tryz.func82.trans (congrArg some (by kernel_rfl))⟩,
  f8 := ⟨Tryz.f102.name, by decide, Tryz.func102.trans (congrArg some (by kernel_rfl))⟩,
  f11 := ⟨Tryz.f118.name, by decide, Tryz.func118.trans (congrArg some (by kernel_rfl))⟩,
  t0 := Tryz.underlying0,
  a0 := Tryz.isAgg0,
  z0 := Tryz.sizeOf0,
  v0 := Tryz.zeroValue0,
  t24 := Tryz.underlying51,
  a24 := Tryz.isAgg51,
  z24 := Tryz.sizeOf51,
  v24 := Tryz.zeroValue51,
  t26 := Tryz.underlying9,
  a26 := Tryz.isAgg9,
  z26 := Tryz.sizeOf9,
  v26 := Tryz.zeroValue9,
  t28 := Tryz.underlying129,
  a28 := Tryz.isAgg129,
  z28 := Tryz.sizeOf129,
  v28 := Tryz.zeroValue129,
  i26 := by kernel_rfl }
def Tryz.sort103_ren : Go.Shelf.Ren := ⟨fun | 6 => 103 | 8 => 120 | 9 => 119 | 19 => 140 | 20 => 141 | 21 => 131 | 22 => 132 | 23 => 133 | 24 => 134 | 25 => 135 | 26 => 136 | 27 => 137 | 28 => 138 | 29 => 139 | 36 => 145 | 31 => 146 | 32 => 147 | 37 => 148 | 38 => 149 | 39 => 150 | 41 => 151 | n => n, fun | 27 => 51 | 29 => 9 | 3 => 3 | 32 => 155 | 26 => 51 | 0 => 0 | 44 => 192 | 46 => 139 | 4 => 4 | 36 => 185 | 35 => 184 | 41 => 145 | 5 => 5 | 9 => 9 | 53 => 195 | 57 => 199 | 63 => 201 | 64 => 202 | n => n, fun | n => n⟩
theorem Tryz.sort103 : Go.Proofs.SlLaysM.n6 Tryz.prog Tryz.sort103_ren := {
  mixed := by kernel_rfl,
  f6 := ⟨Tryz.f103.name, by decide, Tryz.func103.trans (congrArg some (by kernel_rfl))⟩,
  f8 := Tryz.func120.trans (congrArg some (by kernel_rfl)),
  f9 := ⟨Tryz.f119.name, by decide, Tryz.func119.trans (congrArg some (by kernel_rfl))⟩,
  f19 := Tryz.func140.trans (congrArg some (by kernel_rfl)),
  f20 := Tryz.func141.trans (congrArg some (by kernel_rfl)),
  f21 := ⟨Tryz.f131.name, by decide, Tryz.func131.trans (congrArg some (by kernel_rfl))⟩,
  f22 := ⟨Tryz.f132.name, by decide, Tryz.func132.trans (congrArg some (by kernel_rfl))⟩,
  f23 := ⟨Tryz.f133.name, by decide, Tryz.func133.trans (congrArg some (by kernel_rfl))⟩,
  f24 := ⟨Tryz.f134.name, by decide, Tryz.func134.trans (congrArg some (by kernel_rfl))⟩,
  f25 := ⟨Tryz.f135.name, by decide, Tryz.func135.trans (congrArg some (by kernel_rfl))⟩,
  f26 := ⟨Tryz.f136.name, by decide, Tryz.func136.trans (congrArg some (by kernel_rfl))⟩,
  f27 := ⟨Tryz.f137.name, by decide, Tryz.func137.trans (congrArg some (by kernel_rfl))⟩,
  f28 := ⟨Tryz.f138.name, by decide, Tryz.func138.trans (congrArg some (by kernel_rfl))⟩,
  f29 := ⟨Tryz.f139.name, by decide, Tryz.func139.trans (congrArg some (by kernel_rfl))⟩,
  f31 := Tryz.func146.trans (congrArg some (by kernel_rfl)),
  f32 := Tryz.func147.trans (congrArg some (by kernel_rfl)),
  f36 := ⟨Tryz.f145.name, by decide, Tryz.func145.trans (congrArg some (by kernel_rfl))⟩,
  f37 := ⟨Tryz.f148.name, by decide, Tryz.func148.trans (congrArg some (by kernel_rfl))⟩,
  f38 := ⟨Tryz.f149.name, by decide, Tryz.func149.trans (congrArg some (by kernel_rfl))⟩,
  f39 := ⟨Tryz.f150.name, by decide, Tryz.func150.trans (congrArg some (by kernel_rfl))⟩,
  f41 := ⟨Tryz.f151.name, by decide, Tryz.func151.trans (congrArg some (by kernel_rfl))⟩,
  t0 := Tryz.underlying0,
  a0 := Tryz.isAgg0,
  z0 := Tryz.sizeOf0,
  v0 := Tryz.zeroValue0,
  t3 := Tryz.underlying3,
  a3 := Tryz.isAgg3,
  z3 := Tryz.sizeOf3,
  v3 := Tryz.zeroValue3,
  t4 := Tryz.underlying4,
  a4 := Tryz.isAgg4,
  z4 := Tryz.sizeOf4,
  v4 := Tryz.zeroValue4,
  t5 := Tryz.underlying5,
  a5 := Tryz.isAgg5,
  z5 := Tryz.sizeOf5,
  v5 := Tryz.zeroValue5,
  t9 := Tryz.underlying9,
  a9 := Tryz.isAgg9,
  z9 := Tryz.sizeOf9,
  v9 := Tryz.zeroValue9,
  t26 := Tryz.underlying51,
  a26 := Tryz.isAgg51,
  z26 := Tryz.sizeOf51,
  v26 := Tryz.zeroValue51,
  t27 := Tryz.underlying51,
  a27 := Tryz.isAgg51,
  z27 := Tryz.sizeOf51,
  v27 := Tryz.zeroValue51,
  t29 := Tryz.underlying9,
  a29 := Tryz.isAgg9,
  z29 := Tryz.sizeOf9,
  v29 := Tryz.zeroValue9,
  t32 := Tryz.underlying155,
  a32 := Tryz.isAgg155,
  z32 := Tryz.sizeOf155,
  v32 := Tryz.zeroValue155,
  t35 := Tryz.underlying184,
  a35 := Tryz.isAgg184,
  z35 := Tryz.sizeOf184,
  v35 := Tryz.zeroValue184,
  t36 := Tryz.underlying185,
  a36 := Tryz.isAgg185,
  z36 := Tryz.sizeOf185,
  v36 := Tryz.zeroValue185,
  t41 := Tryz.underlying145,
  a41 := Tryz.isAgg145,
  z41 := Tryz.sizeOf145,
  v41 := Tryz.zeroValue145,
  t44 := Tryz.underlying192,
  a44 := Tryz.isAgg192,
  z44 := Tryz.sizeOf192,
  v44 := Tryz.zeroValue192,
  t46 := Tryz.underlying139,
  a46 := Tryz.isAgg139,
  z46 := Tryz.sizeOf139,
  v46 := Tryz.zeroValue139,
  t53 := Tryz.underlying195,
  a53 := Tryz.isAgg195,
  z53 := Tryz.sizeOf195,
  v53 := Tryz.zeroValue195,
  t57 := Tryz.underlying199,
  a57 := Tryz.isAgg199,
  z57 := Tryz.sizeOf199,
  v57 := Tryz.zeroValue199,
  t63 := Tryz.underlying201,
  a63 := Tryz.isAgg201,
  z63 := Tryz.sizeOf201,
  v63 := Tryz.zeroValue201,
  t64 := Tryz.underlying202,
  a64 := Tryz.isAgg202,
  z64 := Tryz.sizeOf202,
  v64 := Tryz.zeroValue202 }

/-- slices.Sort's two contracts at this dump, at the fence that asks nothing. -/
theorem Tryz.sorts82 (m : Nat) : AnyZ.SortsIn Tryz.prog Tryz.sorted82_ren Fence.wide m :=
  ⟨fun blk off cap ss W hH hblk hsz => callsIn_wide.2 (AnyM.slices_Sort_string Tryz.sort103 blk off cap ss W hH hblk hsz),
   fun p cap W => callsIn_wide.2 (AnyM.slices_Sort_string_none Tryz.sort103 p cap W)⟩

/-- **maps.Keys[map[string]bool,string,bool], at whatever map, the nil one too:** a function value over ONE NEW BLOCK, which holds the map. -/
theorem Tryz.maps_Keys_83 (mb : Option Nat) (W : World) : CallsIn Fence.wide 5 Tryz.prog 83 #[.map mb] W fun e w' => e = .returned (.func (.func 104) #[] #[.pointer (some ⟨W.heap.size, 0, none⟩)]) ∧ w' = W.alloc (.cells #[.map mb] 90) :=
  AnyZ.keys_in Tryz.keys83 Fence.wide 5 trivial rfl mb W

set_option maxHeartbeats 1000000 in
/-- **slices.Sorted[string] AT WHAT maps.Keys[map[string]bool,string,bool] HANDED BACK FOR A MAP THAT IS NOT nil** ('w': the world AHEAD of maps.Keys' call): A NEW SLICE THAT HOLDS THE MAP's KEYS, SORTED; nil just where it has none; nothing that lay before has turned. -/
theorem Tryz.slices_Sorted_keys_82_83 {H : Type} (b nn : Nat) (D0 : DataW H) (R : Value → Option (DataW H × List MemPlace)) (w : World) (hown : w.ownsMap Tryz.prog 9 R b nn D0) (hmax : Maps.size D0 ≤ maxLen) (hbytes : Maps.size D0 * 16 ≤ 140737488355328) :
    CallsIn Fence.wide 5 Tryz.prog 82 #[.func (.func 104) #[] #[.pointer (some ⟨w.heap.size, 0, none⟩)]] (w.alloc (.cells #[.map (some b)] 90)) fun e w' => ∃ (v : Value) (ss : List (List UInt8)), e = .returned v ∧ ss.Perm (strKeys D0) ∧
      w'.ownsRow (w.alloc (.cells #[.map (some b)] 90)).heap.size 9 1 v ss.length ((ss.mergeSort (fun x y => decide (x ≤ y))).map encStr) ∧ (v = .slice none 0 0 ↔ ss = []) ∧ Below (w.alloc (.cells #[.map (some b)] 90)).heap.size (w.alloc (.cells #[.map (some b)] 90)) w' := by
  have hbl := hown.lt
  have hseq : SeqGives Fence.wide 2 Tryz.prog 104 #[.pointer (some ⟨w.heap.size, 0, none⟩)] encStr (fun ss => ss.Perm (strKeys D0)) (Maps.size D0) (w.alloc (.cells #[.map (some b)] 90)) :=
    AnyZ.keys_gives (ρ := Tryz.keys83_ren) { Tryz.keys83 with } Fence.wide _ trivial rfl (by omega) w.heap.size b nn D0 _ (by simp) (by simp) (by
      obtain ⟨es, clock, hb, Ft, hs, hD⟩ := hown
      exact ⟨es, clock, (Below.heap_alloc _ _ b hbl).trans hb, Ft, hs, hD⟩)
  exact AnyZ.sorted_in Tryz.sorted82 Fence.wide 5 trivial trivial trivial trivial rfl (by omega) (Tryz.sorts82 _) (enters_of Tryz.func103 (by kernel_rfl) rfl) 104 #[.pointer (some ⟨w.heap.size, 0, none⟩)] trivial (enters_of Tryz.func104 (by kernel_rfl) rfl) _ _ hmax hbytes _ hseq

set_option maxHeartbeats 1000000 in
/-- **.. AND FOR THE nil MAP: nil.** -/
theorem Tryz.slices_Sorted_keys_nil_82_83 (w : World) :
    CallsIn Fence.wide 5 Tryz.prog 82 #[.func (.func 104) #[] #[.pointer (some ⟨w.heap.size, 0, none⟩)]] (w.alloc (.cells #[.map none] 90)) fun e w' => ∃ (v : Value) (ss : List (List UInt8)), e = .returned v ∧ ss = [] ∧
      w'.ownsRow (w.alloc (.cells #[.map none] 90)).heap.size 9 1 v ss.length ((ss.mergeSort (fun x y => decide (x ≤ y))).map encStr) ∧ (v = .slice none 0 0 ↔ ss = []) ∧ Below (w.alloc (.cells #[.map none] 90)).heap.size (w.alloc (.cells #[.map none] 90)) w' := by
  have hseq : SeqGives Fence.wide 2 Tryz.prog 104 #[.pointer (some ⟨w.heap.size, 0, none⟩)] encStr (fun ss : List (List UInt8) => ss = []) 0 (w.alloc (.cells #[.map none] 90)) :=
    AnyZ.keys_gives_nil (ρ := Tryz.keys83_ren) { Tryz.keys83 with } Fence.wide _ trivial rfl w.heap.size _ (by simp) (by simp)
  exact AnyZ.sorted_in Tryz.sorted82 Fence.wide 5 trivial trivial trivial trivial rfl (by omega) (Tryz.sorts82 _) (enters_of Tryz.func103 (by kernel_rfl) rfl) 104 #[.pointer (some ⟨w.heap.size, 0, none⟩)] trivial (enters_of Tryz.func104 (by kernel_rfl) rfl) _ 0 (Nat.zero_le _) (by omega) _ hseq

-- THE CALLER's WALK over 'slices.Sorted(maps.Keys(m))' (inside '(callsIn_wide (n := 6)).1'; 'have hfK : Fence.wide.fn 83 := trivial', 'have hfS : Fence.wide.fn 82 := trivial' ahead): THE TWO ARMS TO PASTE:
--   gi_wp2_with (first
--     | (gi_at_call 83; refine (Tryz.maps_Keys_83 _ _).mono ?_; rintro e w' ⟨rfl, rfl⟩)
--     | (gi_at_call 82; refine (Tryz.slices_Sorted_keys_82_83 b nn D0 R w hown hmax hbytes).mono ?_; rintro e w' ⟨v, ss, rfl, hS, hrow, hnil, hb⟩))


end Go.Proofs
