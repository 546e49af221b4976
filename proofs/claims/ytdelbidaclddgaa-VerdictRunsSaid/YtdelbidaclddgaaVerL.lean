/- The layer 'verdict': VerL; a seat's own text, no law of its own. -/
import Derived.Test.YtdelbidaclddgaaVerK
import Derived.Shelf.SlSortCmp.WholeK
import Derived.Ground.SlsfProg
import Derived.Deep.LoopGhost
import Derived.Deep.Cut
import Derived.Lib.Hide
import Derived.StillTailTactics
import Derived.Deep.QuietTactic
import Derived.BigQuiet
import Derived.Outline
import Derived.Deep.RegionWith
import Derived.Deep.RegionHeld3
import Derived.WalkLawsBesides
namespace Go.Proofs.Ytdelbidaclddgaa.Ver
open Go.RowKit Go.Proofs.YtdelbidaclddgaaW.PrintWords Go.Proofs.Ytdelbidaclddgaa.MVerdictRuns Go.Proofs.YtdelbidaclddgaaW.PrintLast
set_option linter.unusedVariables false
set_option linter.unusedSimpArgs false
def sortV_ren : Go.Shelf.Ren := ⟨fun | 6 => 78 | 15 => 83 | 14 => 89 | 28 => 98 | 29 => 99 | 20 => 102 | 21 => 103 | 22 => 104 | 23 => 105 | 24 => 106 | 25 => 107 | 26 => 108 | 27 => 109 | 46 => 118 | 47 => 111 | 48 => 112 | 49 => 119 | 50 => 120 | 57 => 122 | n => n, fun | 22 => 27 | 24 => 37 | 25 => 100 | 3 => 3 | 39 => 141 | 0 => 0 | 53 => 30 | 55 => 33 | 4 => 4 | 46 => 151 | 45 => 150 | 50 => 88 | 5 => 5 | 9 => 9 | 66 => 166 | 70 => 170 | 76 => 176 | 77 => 177 | n => n, fun | n => n⟩
theorem sortV : Go.Proofs.SlLaysF0.n6 Try.prog sortV_ren := {
  mixed := by kernel_rfl
  f6 := ⟨Try.f78.name, by decide, Try.func78.trans (congrArg some (by kernel_rfl))⟩
  f14 := ⟨Try.f89.name, by decide, Try.func89.trans (congrArg some (by kernel_rfl))⟩
  f15 := Try.func83.trans (congrArg some (by kernel_rfl))
  f20 := ⟨Try.f102.name, by decide, Try.func102.trans (congrArg some (by kernel_rfl))⟩
  f21 := ⟨Try.f103.name, by decide, Try.func103.trans (congrArg some (by kernel_rfl))⟩
  f22 := ⟨Try.f104.name, by decide, Try.func104.trans (congrArg some (by kernel_rfl))⟩
  f23 := ⟨Try.f105.name, by decide, Try.func105.trans (congrArg some (by kernel_rfl))⟩
  f24 := ⟨Try.f106.name, by decide, Try.func106.trans (congrArg some (by kernel_rfl))⟩
  f25 := ⟨Try.f107.name, by decide, Try.func107.trans (congrArg some (by kernel_rfl))⟩
  f26 := ⟨Try.f108.name, by decide, Try.func108.trans (congrArg some (by kernel_rfl))⟩
  f27 := ⟨Try.f109.name, by decide, Try.func109.trans (congrArg some (by kernel_rfl))⟩
  f28 := Try.func98.trans (congrArg some (by kernel_rfl))
  f29 := Try.func99.trans (congrArg some (by kernel_rfl))
  f46 := ⟨Try.f118.name, by decide, Try.func118.trans (congrArg some (by kernel_rfl))⟩
  f47 := Try.func111.trans (congrArg some (by kernel_rfl))
  f48 := Try.func112.trans (congrArg some (by kernel_rfl))
  f49 := ⟨Try.f119.name, by decide, Try.func119.trans (congrArg some (by kernel_rfl))⟩
  f50 := ⟨Try.f120.name, by decide, Try.func120.trans (congrArg some (by kernel_rfl))⟩
  f57 := ⟨Try.f122.name, by decide, Try.func122.trans (congrArg some (by kernel_rfl))⟩
  t0 := Try.underlying0
  a0 := Try.isAgg0
  z0 := Try.sizeOf0
  v0 := Try.zeroValue0
  t3 := Try.underlying3
  a3 := Try.isAgg3
  z3 := Try.sizeOf3
  v3 := Try.zeroValue3
  t4 := Try.underlying4
  a4 := Try.isAgg4
  z4 := Try.sizeOf4
  v4 := Try.zeroValue4
  t5 := Try.underlying5
  a5 := Try.isAgg5
  z5 := Try.sizeOf5
  v5 := Try.zeroValue5
  t9 := Try.underlying9
  a9 := Try.isAgg9
  z9 := Try.sizeOf9
  v9 := Try.zeroValue9
  t22 := Try.underlying27
  a22 := Try.isAgg27
  z22 := Try.sizeOf27
  v22 := Try.zeroValue27
  t25 := Try.underlying100
  a25 := Try.isAgg100
  z25 := Try.sizeOf100
  v25 := Try.zeroValue100
  t39 := Try.underlying141
  a39 := Try.isAgg141
  z39 := Try.sizeOf141
  v39 := Try.zeroValue141
  t45 := Try.underlying150
  a45 := Try.isAgg150
  z45 := Try.sizeOf150
  v45 := Try.zeroValue150
  t46 := Try.underlying151
  a46 := Try.isAgg151
  z46 := Try.sizeOf151
  v46 := Try.zeroValue151
  t50 := Try.underlying88
  a50 := Try.isAgg88
  z50 := Try.sizeOf88
  v50 := Try.zeroValue88
  t53 := Try.underlying30
  a53 := Try.isAgg30
  z53 := Try.sizeOf30
  v53 := Try.zeroValue30
  t55 := Try.underlying33
  a55 := Try.isAgg33
  z55 := Try.sizeOf33
  v55 := Try.zeroValue33
  t66 := Try.underlying166
  a66 := Try.isAgg166
  z66 := Try.sizeOf166
  v66 := Try.zeroValue166
  t70 := Try.underlying170
  a70 := Try.isAgg170
  z70 := Try.sizeOf170
  v70 := Try.zeroValue170
  t76 := Try.underlying176
  a76 := Try.isAgg176
  z76 := Try.sizeOf176
  v76 := Try.zeroValue176
  t77 := Try.underlying177
  a77 := Try.isAgg177
  z77 := Try.sizeOf177
  v77 := Try.zeroValue177 }
open Go.Maps Go.Sort
instance inh37 : Inhabited S37 := ⟨z37⟩
theorem encL_len (v : S37) : (encL v).length = 8 := rfl
theorem cells_get : ∀ (vs : List S37) (t : Nat), t < vs.length * 8 → (cellsV vs)[t]? = (encL (vs.getD (t / 8) z37))[t % 8]?
  | [], t, h => by simp at h
  | v :: r, t, h => by
    have e : cellsV (v :: r) = encL v ++ cellsV r := rfl
    rw [e]
    by_cases h8 : t < 8
    · rw [List.getElem?_append_left (by rw [encL_len]; exact h8), Nat.div_eq_of_lt h8, Nat.mod_eq_of_lt h8]
      rfl
    · rw [List.getElem?_append_right (by rw [encL_len]; omega), encL_len, cells_get r (t - 8) (by simp at h; omega)]
      have e1 : t / 8 = (t - 8) / 8 + 1 := by omega
      have e2 : t % 8 = (t - 8) % 8 := by omega
      rw [e1, e2, List.getD_cons_succ]
theorem flat_eq (vs : List S37) : flatK encL 8 vs.toArray = (cellsV vs).toArray := by
  apply Array.ext
  · simp [cellsV_len]
  · intro i h1 h2
    have hi : i < vs.length * 8 := by simpa using h1
    have e1 := get_flatK encL 8 vs.toArray i (by simpa using hi)
    rw [getElem!_pos (flatK encL 8 vs.toArray) i h1] at e1
    rw [e1]
    have e2 := cells_get vs i hi
    have e3 : vs.toArray[i / 8]! = vs.getD (i / 8) z37 := by
      have : i / 8 < vs.length := by omega
      rw [getElem!_pos vs.toArray (i / 8) (by simpa using this)]
      simp [this]
    rw [e3]
    have h8 : i % 8 < (encL (vs.getD (i / 8) z37)).length := by rw [encL_len]; omega
    rw [getElem!_pos (encL (vs.getD (i / 8) z37)) (i % 8) h8]
    rw [List.getElem?_eq_getElem h8] at e2
    have h3 : i < (cellsV vs).length := by rw [cellsV_len]; exact hi
    rw [List.getElem?_eq_getElem h3] at e2
    simpa using (Option.some.inj e2).symm
theorem holdsV {w : World} {g : Nat} {cur : Array Value} {e : TypeId} {ts : List Value} (hb : w.heap[g]? = some (.cells cur e (0, 0))) (ht : cur.toList.take ts.length = ts) : Holds id w g 0 ts.toArray := by
  intro j hj
  have hj' : j < ts.length := by simpa using hj
  refine ⟨?_, by simp [World.frozen?, hb]⟩
  have h1 : (cur.toList.take ts.length)[j]? = ts[j]? := by rw [ht]
  rw [List.getElem?_take_of_lt hj'] at h1
  simp only [World.cell?, hb, Nat.zero_add]
  simp only [Option.isSome_none, Bool.false_eq_true, if_false]
  rw [← Array.getElem?_toList, h1]
  simp [hj']
theorem take_putV (cur : Array Value) (ts : List Value) (h : ts.length ≤ cur.size) : (putCells id 0 ts.toArray cur).toList.take ts.length = ts := by
  apply List.ext_getElem?
  intro j
  by_cases hj : j < ts.length
  · rw [List.getElem?_take_of_lt hj, Array.getElem?_toList]
    simp [putCells, hj, show j < cur.size by omega]
  · rw [List.getElem?_take_eq_none (by omega), List.getElem?_eq_none (by omega)]
theorem heap_sortedV {w : World} {g n : Nat} {os : Array Obj} {cur : Array Value} {e : TypeId} {fr : Nat × Nat} (d : Array Value) (hb : w.heap[g]? = some (.cells cur e fr)) :
    (grow (putRow id (Sort.ahead w n) g 0 d) os).heap[g]? = some (.cells (putCells id 0 d cur) e fr) := by
  have hg : g < w.heap.size := (Array.getElem?_eq_some_iff.1 hb).1
  rw [heap_grow_old _ _ (by simpa using hg)]
  simp [putRow, mapBlock, Sort.ahead, Array.getElem?_modify, hb, onCells]
theorem grownBy_sortedV {w : World} {g n : Nat} {os : Array Obj} (d : Array Value) : w.grownBy (grow (putRow id (Sort.ahead w n) g 0 d) os) (some g) := by
  refine ⟨rfl, rfl, rfl, by simp, fun k hk hne => ?_⟩
  rw [heap_grow_old _ _ (by simpa using hk)]
  have : g ≠ k := fun e => hne (by rw [e])
  simp [putRow, mapBlock, Sort.ahead, Array.getElem?_modify, this]
theorem cf_lt (x y : S37) : ltOf cfV x y = decide (x.f0.f0 < y.f0.f0 ∨ x.f0.f0 = y.f0.f0 ∧ x.f0.f1 < y.f0.f1) := by
  unfold ltOf cfV orI c32
  rw [decide_eq_decide]
  split <;> split <;> (try split) <;> (try split) <;> omega
theorem swoV : SWO (ltOf cfV) where
  irrefl x := by rw [cf_lt]; simp
  trans x y z h1 h2 := by rw [cf_lt] at *; simp at *; omega
  ntrans x y z h1 h2 := by rw [cf_lt] at *; simp at *; omega
theorem cmpLaysV (blk off size : Nat) (w : World) : CmpLays Try.prog 55 #[] encL 8 cfV blk off size w := fun _ _ _ _ x y => cmp_calls x y _
theorem sorted_is {L : List S37} (hO : OrdV L) {d d' : Array S37} (hd : d.toList.Perm L) (hp : PermIn 0 d.size d d') (hs : SortedIn (ltOf cfV) 0 d.size d') : d'.toList = L := by
  obtain ⟨hsz, _, hp2⟩ := hp
  have e1 : d'.extract 0 d.size = d' := by rw [← hsz]; simp
  have e2 : d.extract 0 d.size = d := by simp
  rw [e1, e2] at hp2
  have hperm := hp2.trans hd
  have hpw : d'.toList.Pairwise (fun x y => ltOf cfV y x = false) := by
    rw [List.pairwise_iff_getElem]
    intro i j hi hj hij
    have hi' : i < d'.size := by simpa using hi
    have hj' : j < d'.size := by simpa using hj
    have := hs i j (Nat.zero_le _) hij (by omega)
    rw [getElem!_pos d' i hi', getElem!_pos d' j hj'] at this
    simpa using this
  have hLw : L.Pairwise (fun x y => ltOf cfV y x = false) := hO.imp (fun {x y} h => by rw [cf_lt]; unfold kcV knV at h; exact decide_eq_false (by omega))
  refine List.Perm.eq_of_pairwise (le := fun x y => ltOf cfV y x = false) (fun a b ha hb h1 h2 => ?_) hpw hLw hperm
  rw [cf_lt] at h1 h2
  have h1 := of_decide_eq_false h1
  have h2 := of_decide_eq_false h2
  have haL : a ∈ L := hperm.mem_iff.1 ha
  have key : ∀ {l : List S37}, OrdV l → a ∈ l → b ∈ l → a = b := by
    intro l hl hu hv
    induction l with
    | nil => cases hu
    | cons x r ih =>
      obtain ⟨o1, o2⟩ := List.pairwise_cons.1 hl
      rcases List.mem_cons.1 hu with e1 | hu2
      · rcases List.mem_cons.1 hv with e2 | hv2
        · exact e1.trans e2.symm
        · have := o1 b hv2; rw [← e1] at this; unfold kcV knV at this; omega
      · rcases List.mem_cons.1 hv with e2 | hv2
        · have := o1 a hu2; rw [← e2] at this; unfold kcV knV at this; omega
        · exact ih o2 hu2 hv2
  exact key hO haL hb
set_option maxHeartbeats 2000000 in
set_option maxRecDepth 100000 in
theorem ins_none (p : Option Addr) (cap : Nat) (fv : Value) (w : World) : Calls Try.prog 102 #[.slice p 0 cap, .int .i64 0, .int .i64 0, fv] w fun e w' => e = .returned (.tuple #[]) ∧ w' = w := by
  go_enter Try.func102, Try.ntmps102
  go_wp2
  refine wp_loop_rounds 1 ?_
  rw [rounds_succ]
  go_wp2
  go_end0
  exact ⟨rfl, rfl⟩
set_option maxHeartbeats 2000000 in
set_option maxRecDepth 100000 in
theorem pdq_none (p : Option Addr) (cap : Nat) (lim : Int) (fv : Value) (w : World) : Calls Try.prog 89 #[.slice p 0 cap, .int .i64 0, .int .i64 0, .int .i64 lim, fv] w fun e w' => e = .returned (.tuple #[]) ∧ w' = w := by
  go_enter Try.func89, Try.ntmps89
  go_wp2
  refine wp_loop_rounds 1 ?_
  rw [rounds_succ]
  go_wp2_with (go_at_call 102; refine (ins_none _ _ _ _).mono ?_; rintro e w' ⟨rfl, rfl⟩)
  (try simp only [Exit.inBlock, Exit.then]); refine bodyPost_ret (results_none rfl _ _ _) rfl ?_
  exact ⟨rfl, rfl⟩
set_option maxHeartbeats 2000000 in
set_option maxRecDepth 100000 in
theorem sort_none (p : Option Addr) (cap : Nat) (fv : Value) (w : World) : Calls Try.prog 78 #[.slice p 0 cap, fv] w fun e w' => e = .returned (.tuple #[]) ∧ w' = w := by
  have hl : ∀ W, Calls Try.prog 83 #[.int .u64 0] W fun e w' => e = .returned (.int .i64 (Lib.bitLen 0 : Nat)) ∧ w' = W := fun W => by
    have h := Any.bits_Len (SlLaysF0.n15.bits (P := Try.prog) (ρ := sortV_ren) { sortV with }) 0 W (by omega) (by omega)
    exact h
  go_enter Try.func78, Try.ntmps78
  go_wp2_with (first | (go_at_call 83; refine (hl _).mono ?_; rintro e w' ⟨rfl, rfl⟩) | (go_at_call 89; refine (pdq_none _ _ _ _ _).mono ?_; rintro e w' ⟨rfl, rfl⟩))
  go_end0
  exact ⟨rfl, rfl⟩
theorem eg55 : ∀ args w, (callFunc 55 args).run Try.prog w = .ok (.enter 55 args) w := enters_of Try.func55 (by kernel_rfl) rfl
theorem eg79 : ∀ args w, (callFunc 79 args).run Try.prog w = .ok (.enter 79 args) w := enters_of Try.func79 (by kernel_rfl) rfl
theorem sort_calls (gb cap : Nat) (vs : List S37) (W : World) (hH : HoldsK encL 8 W gb 0 vs.toArray) (hgb : gb < W.heap.size) (hsz : vs.length < 4611686018427387904) :
    Calls Try.prog 78 #[.slice (some ⟨gb, 0, none⟩) vs.length cap, .func (.func 55) #[] #[]] W fun e w' => e = .returned (.tuple #[]) ∧ ∃ (d' : Array S37) (n : Nat) (os : Array Obj), PermIn 0 vs.length vs.toArray d' ∧ SortedIn (ltOf cfV) 0 vs.length d' ∧ w' = grow (putRow id (Sort.ahead W n) gb 0 (flatK encL 8 d')) os := by
  have h := AnyQ.slices_SortFunc sortV 8 Try.isAgg37 Try.sizeOf37 encL encL_len encL_one cfV swoV 55 #[] gb 0 cap vs.toArray W eg55 (cmpLaysV gb 0 _ W) hH hgb (by simpa using hsz)
  simp only [List.size_toArray] at h
  exact h
set_option maxHeartbeats 4000000 in
set_option maxRecDepth 100000 in
theorem sortedF_in (n : Nat) (hn : 4 ≤ n) (g : Nat) (lb : Array Value) (eg : ∀ args w, (callFunc g args).run Try.prog w = .ok (.enter g args) w) (L : List S37) (hO : OrdV L) (hN : L.length ≤ 1000000000) (w : World)
    (hseq : SeqGives Fence.wide (n - 1 - 1 - 1) Try.prog g lb encV (fun vs => vs.Perm L) L.length w) :
    CallsIn Fence.wide n Try.prog 53 #[.func (.func g) #[] lb, .func (.func 55) #[] #[]] w fun e w' => ∃ v : Value, e = .returned v ∧ w'.ownsRow w.heap.size 37 8 v L.length (cellsV L) ∧ (v = .slice none 0 0 ↔ L = []) ∧ Below w.heap.size w w' := by
  have h1 : 1 ≤ n := by omega
  have h77 : Fence.wide.fn 77 := trivial
  have h78 : Fence.wide.fn 78 := trivial
  refine callsIn_of_wp Try.func53 rfl trivial ?_ rfl
  simp only [Try.ntmps53, List.size_toArray, List.length_cons, List.length_nil, Nat.reduceAdd, Nat.reduceSub, Array.replicate_succ, Array.replicate_zero, List.push_toArray, List.append_toArray, List.nil_append, List.cons_append]
  gi_wp2_with (gi_at_call 77; refine (collect_in (n - 1) (by omega) g lb eg _ L.length (by unfold maxLen; omega) (by omega) _ hseq).mono ?_; rintro e W ⟨v, vs, rfl, hS, hrow, hnil, hb⟩)
  have hvl := hS.length_eq
  rcases hrow.2 with ⟨rfl, hz⟩ | ⟨gb, cap, cur, rfl, hbase, hgb, r1, r2, r3, r4⟩
  · have hss : vs = [] := List.eq_nil_of_length_eq_zero hz
    subst hss
    have hL : L = [] := List.eq_nil_of_length_eq_zero hvl.symm
    subst hL
    gi_wp2_with (gi_at_call 78; refine (callsIn_wide.2 (sort_none none 0 _ W)).mono ?_; rintro e w' ⟨rfl, rfl⟩)
    go_ret
    exact ⟨.slice none 0 0, rfl, hrow, by simp, hb⟩
  · have hH : HoldsK encL 8 W gb 0 vs.toArray := by
      unfold HoldsK
      rw [flat_eq]
      exact holdsV hgb (by rw [cellsV_len]; exact r4)
    have hgl : gb < W.heap.size := (Array.getElem?_eq_some_iff.1 hgb).1
    have cS := sort_calls gb cap vs W hH hgl (by omega)
    gi_wp2_with (gi_at_call 78; refine (callsIn_wide.2 cS).mono ?_; rintro e w' ⟨rfl, d', nn, os, hp, hs, rfl⟩)
    go_ret
    have hd : d'.toList = L := sorted_is hO (d := vs.toArray) (by simpa using hS) (by simpa using hp) (by simpa using hs)
    have hd2 : d' = L.toArray := by rw [← hd]
    subst hd2
    rw [flat_eq]
    refine ⟨.slice (some ⟨gb, 0, none⟩) L.length cap, rfl, ?_, by rw [← hvl, hnil]; exact ⟨fun h => by subst h; exact List.eq_nil_of_length_eq_zero hvl.symm, fun h => by subst h; exact List.eq_nil_of_length_eq_zero hvl⟩, hb.grown (grownBy_sortedV _) hb.size (fun j hj => by cases hj; exact hbase)⟩
    refine ⟨by rw [cellsV_len], .inr ⟨gb, cap, _, rfl, hbase, heap_sortedV _ hgb, by omega, r2, by simp [putCells, r3], ?_⟩⟩
    rw [← cellsV_len]
    exact take_putV cur (cellsV L) (by rw [cellsV_len, r3]; omega)
theorem values_calls (mb : Option Nat) (W : World) : Calls Try.prog 54 #[.map mb] W fun e w' => e = .returned (.func (.func 79) #[] #[.pointer (some ⟨W.heap.size, 0, none⟩)]) ∧ w' = W.alloc (.cells #[.map mb] 83) := by
  go_enter Try.func54, Try.ntmps54
  go_wp2
  go_ret
  exact ⟨rfl, rfl⟩
set_option maxHeartbeats 4000000 in
set_option maxRecDepth 100000 in
theorem all_calls {W : World} {p b m : Nat} {L : List S37} (h : Book W p b m L) (hm : m ≤ 1000000000) :
    Calls Try.prog 23 #[.pointer (some ⟨p, 0, none⟩)] W fun e W' => ∃ v : Value, e = .returned v ∧ W'.ownsRow W.heap.size 37 8 v L.length (cellsV L) ∧ (v = .slice none 0 0 ↔ L = []) ∧ Mod W W' [] := by
  have hlen := h.len
  have m1 := (Mod.refl W []).alloc (.cells #[.map (some b)] 83)
  have hb1 := h.mod m1 (by simp) (by simp)
  have hbx := blk_new W (.cells #[.map (some b)] 83)
  have hseq := vals_gives (6 - 1 - 1 - 1) (by omega) W.heap.size b m L h.ord h.rgs (W.alloc (.cells #[.map (some b)] 83)) (by simp) ((blk_cell hbx 0).trans rfl) hb1.hm
  have cS := callsIn_wide.1 (sortedF_in 6 (by omega) 79 #[.pointer (some ⟨W.heap.size, 0, none⟩)] eg79 L h.ord (by omega) _ hseq)
  have c0 := h.c0
  have HM := Lib.hid m1
  clear hseq hb1 hbx m1
  go_enter Try.func23, Try.ntmps23
  go_wp2_with (first
    | (go_at_call 54; refine (values_calls _ _).mono ?_; rintro e w' ⟨rfl, rfl⟩)
    | (go_at_call 53; refine cS.mono ?_; rintro e w' ⟨v, rfl, hrow, hnil, hb⟩))
  go_ret
  have hsz : W.heap.size ≤ (W.alloc (.cells #[.map (some b)] 83)).heap.size := by simp
  exact ⟨v, rfl, ownsRow_base_a hrow hsz, hnil, HM.out.trans (Mod.of_below hb) (fun _ hk => by cases hk)⟩
end Go.Proofs.Ytdelbidaclddgaa.Ver
