/- The layer 'latch': LatJ; a seat's own text, no law of its own. -/
import Derived.Test.YtdelbidaclddgaaLatI
import Derived.Shelf.SlSortCmp.WholeK
import Derived.Deep.LoopGhost
import Derived.Deep.Cut
import Derived.Lib.Hide
import Derived.StillTailTactics
import Derived.Deep.QuietTactic
import Derived.BigQuiet
import Derived.Outline
import Derived.Deep.RegionWith
import Derived.Deep.RegionHeld3
import Derived.WalkLawsBesides
namespace Go.Proofs.Ytdelbidaclddgaa.Lat
open Go.RowKit Go.Proofs.YtdelbidaclddgaaW.PrintWords Go.Proofs.Ytdelbidaclddgaa.MLatchRuns Go.Proofs.YtdelbidaclddgaaW.PrintLast
set_option linter.unusedVariables false
set_option linter.unusedSimpArgs false
open Go.Maps Go.Sort
instance inh63 : Inhabited S63 := ⟨z63⟩
def encL (v : S63) : List Value := [.string v.f0, .string v.f1, .bool v.f2]
theorem encL_len (v : S63) : (encL v).length = 3 := rfl
theorem encL_one (v : S63) : ∀ u ∈ encL v, u.oneCell' = true := by
  intro u hu
  simp only [encL, List.mem_cons, List.not_mem_nil, or_false] at hu
  rcases hu with rfl | rfl | rfl <;> rfl
def cellsV (vs : List S63) : List Value := vs.flatMap encL
theorem cellsV_len (vs : List S63) : (cellsV vs).length = vs.length * 3 := by
  induction vs with
  | nil => rfl
  | cons v r ih => simp only [cellsV, List.flatMap_cons, List.length_append, List.length_cons] at ih ⊢; rw [ih]; simp only [encL, List.length_cons, List.length_nil]; omega
theorem cells_get : ∀ (vs : List S63) (t : Nat), t < vs.length * 3 → (cellsV vs)[t]? = (encL (vs.getD (t / 3) z63))[t % 3]?
  | [], t, h => by simp at h
  | v :: r, t, h => by
    have e : cellsV (v :: r) = encL v ++ cellsV r := rfl
    rw [e]
    by_cases h8 : t < 3
    · rw [List.getElem?_append_left (by rw [encL_len]; exact h8), Nat.div_eq_of_lt h8, Nat.mod_eq_of_lt h8]
      rfl
    · rw [List.getElem?_append_right (by rw [encL_len]; omega), encL_len, cells_get r (t - 3) (by simp at h; omega)]
      have e1 : t / 3 = (t - 3) / 3 + 1 := by omega
      have e2 : t % 3 = (t - 3) % 3 := by omega
      rw [e1, e2, List.getD_cons_succ]
theorem flat_eq (vs : List S63) : flatK encL 3 vs.toArray = (cellsV vs).toArray := by
  apply Array.ext
  · simp [cellsV_len]
  · intro i h1 h2
    have hi : i < vs.length * 3 := by simpa using h1
    have e1 := get_flatK encL 3 vs.toArray i (by simpa using hi)
    rw [getElem!_pos (flatK encL 3 vs.toArray) i h1] at e1
    rw [e1]
    have e2 := cells_get vs i hi
    have e3 : vs.toArray[i / 3]! = vs.getD (i / 3) z63 := by
      have : i / 3 < vs.length := by omega
      rw [getElem!_pos vs.toArray (i / 3) (by simpa using this)]
      simp [this]
    rw [e3]
    have h8 : i % 3 < (encL (vs.getD (i / 3) z63)).length := by rw [encL_len]; omega
    rw [getElem!_pos (encL (vs.getD (i / 3) z63)) (i % 3) h8]
    rw [List.getElem?_eq_getElem h8] at e2
    have h3 : i < (cellsV vs).length := by rw [cellsV_len]; exact hi
    rw [List.getElem?_eq_getElem h3] at e2
    simpa using (Option.some.inj e2).symm
theorem holdsV {w : World} {g : Nat} {cur : Array Value} {e : TypeId} {ts : List Value} (hb : w.heap[g]? = some (.cells cur e (0, 0))) (ht : cur.toList.take ts.length = ts) : Holds id w g 0 ts.toArray := by
  intro j hj
  have hj' : j < ts.length := by simpa using hj
  refine ⟨?_, by simp [World.frozen?, hb]⟩
  have h1 : (cur.toList.take ts.length)[j]? = ts[j]? := by rw [ht]
  rw [List.getElem?_take_of_lt hj'] at h1
  simp only [World.cell?, hb, Nat.zero_add]
  simp only [Option.isSome_none, Bool.false_eq_true, if_false]
  rw [← Array.getElem?_toList, h1]
  simp [hj']
theorem take_putV (cur : Array Value) (ts : List Value) (h : ts.length ≤ cur.size) : (putCells id 0 ts.toArray cur).toList.take ts.length = ts := by
  apply List.ext_getElem?
  intro j
  by_cases hj : j < ts.length
  · rw [List.getElem?_take_of_lt hj, Array.getElem?_toList]
    simp [putCells, hj, show j < cur.size by omega]
  · rw [List.getElem?_take_eq_none (by omega), List.getElem?_eq_none (by omega)]
theorem heap_sortedV {w : World} {g n : Nat} {os : Array Obj} {cur : Array Value} {e : TypeId} {fr : Nat × Nat} (d : Array Value) (hb : w.heap[g]? = some (.cells cur e fr)) :
    (grow (putRow id (Sort.ahead w n) g 0 d) os).heap[g]? = some (.cells (putCells id 0 d cur) e fr) := by
  have hg : g < w.heap.size := (Array.getElem?_eq_some_iff.1 hb).1
  rw [heap_grow_old _ _ (by simpa using hg)]
  simp [putRow, mapBlock, Sort.ahead, Array.getElem?_modify, hb, onCells]
theorem grownBy_sortedV {w : World} {g n : Nat} {os : Array Obj} (d : Array Value) : w.grownBy (grow (putRow id (Sort.ahead w n) g 0 d) os) (some g) := by
  refine ⟨rfl, rfl, rfl, by simp, fun k hk hne => ?_⟩
  rw [heap_grow_old _ _ (by simpa using hk)]
  have : g ≠ k := fun e => hne (by rw [e])
  simp [putRow, mapBlock, Sort.ahead, Array.getElem?_modify, this]
def Gr (W W' : World) : Prop := ∃ q os, W' = grow (W.drewN q) os
theorem grow_drewN (W : World) (os : Array Obj) (q : Nat) : (grow W os).drewN q = grow (W.drewN q) os := by
  induction q with
  | zero => rfl
  | succ q ih =>
    show ((grow W os).drewN q).drew = grow ((W.drewN q).drew) os
    rw [ih]
    rfl
theorem grow_none (W : World) : grow W #[] = W := by unfold grow; rw [Array.append_empty]
theorem Gr.refl (W : World) : Gr W W := ⟨0, #[], (grow_none _).symm⟩
theorem Gr.trans {A B C : World} (h : Gr A B) (k : Gr B C) : Gr A C := by
  obtain ⟨q, os, rfl⟩ := h
  obtain ⟨q', os', rfl⟩ := k
  exact ⟨q + q', os ++ os', by rw [grow_drewN, grow_grow, World.drewN_drewN]⟩
theorem Gr.alloc {A B : World} (h : Gr A B) (o : Obj) : Gr A (B.alloc o) := h.trans ⟨0, #[o], alloc_eq_grow _ _⟩
theorem Gr.drew {A B : World} (h : Gr A B) : Gr A B.drew := h.trans ⟨1, #[], (grow_none _).symm⟩
theorem Gr.of_drawn {A B : World} (h : Drawn0 A B) : Gr A B := by
  obtain ⟨n, rfl⟩ := h
  exact ⟨n, #[], (grow_none _).symm⟩
theorem Gr.at_ {A B : World} (h : Gr A B) {g : Nat} {o : Obj} (hg : A.heap[g]? = some o) : B.heap[g]? = some o := by
  obtain ⟨q, os, rfl⟩ := h
  have hh : (A.drewN q).heap[g]? = some o := ((Mod.refl A []).drewN q).at_ hg (by simp)
  show ((A.drewN q).heap ++ os)[g]? = some o
  rw [Array.getElem?_append_left (Array.getElem?_eq_some_iff.1 hh).1]
  exact hh
def cfW (x y : S63) : Int := if Tree.lt x.f0 y.f0 = true then -1 else 1
theorem cf_lt (x y : S63) : ltOf cfW x y = Tree.lt x.f0 y.f0 := by
  unfold ltOf cfW
  cases h : Tree.lt x.f0 y.f0
  · rw [if_neg (by simp)]; rfl
  · rw [if_pos rfl]; rfl
theorem swoW : SWO (ltOf cfW) where
  irrefl x := by rw [cf_lt, lt_irr]
  trans x y z h1 h2 := by rw [cf_lt] at *; exact lt_tr h1 h2
  ntrans x y z h1 h2 := by
    rw [cf_lt] at *
    cases h : Tree.lt x.f0 z.f0 with
    | false => rfl
    | true =>
      have h3 := lt_le h h2
      rw [h1] at h3
      cases h3
set_option maxHeartbeats 4000000 in
set_option maxRecDepth 100000 in
theorem cmp_calls (x y : S63) (W : World) : Calls Try.prog 65 #[.agg #[.string x.f0, .string x.f1, .bool x.f2], .agg #[.string y.f0, .string y.f1, .bool y.f2]] W fun e W' => e = .returned (.int .i64 (cfW x y)) ∧ Gr W W' := by
  have Bx : WB (W.alloc (.cells #[.string x.f0, .string x.f1, .bool x.f2] 63)) W.heap.size x := blk_new W _
  have hs : (W.alloc (.cells #[.string x.f0, .string x.f1, .bool x.f2] 63)).heap.size = W.heap.size + 1 := by simp
  have By := blk_new (W.alloc (.cells #[.string x.f0, .string x.f1, .bool x.f2] 63)) (.cells #[.string y.f0, .string y.f1, .bool y.f2] 63)
  rw [hs] at By
  have Bx2 := Bx.mod ((Mod.refl _ []).alloc (.cells #[.string y.f0, .string y.f1, .bool y.f2] 63)) (by simp)
  have G2 := ((Gr.refl W).alloc (.cells #[.string x.f0, .string x.f1, .bool x.f2] 63)).alloc (.cells #[.string y.f0, .string y.f1, .bool y.f2] 63)
  have HG := Go.Lib.hid (And.intro G2 (And.intro Bx2 (show WB _ _ y from By)))
  clear Bx By Bx2 G2
  cases hl : Tree.lt x.f0 y.f0
  all_goals
    have e1 := hl
    unfold Tree.lt at e1
    have HC := Go.Lib.hid hl
    clear hl
    go_enter Try.func65, Try.ntmps65
    go_upto_region 1 with fail
    generalize (W.alloc _).alloc _ = W1 at *
    generalize W.heap.size = q at *
    obtain ⟨a0, a1, a2⟩ := HG.out.2.1.all
    obtain ⟨b0, b1, b2⟩ := HG.out.2.2.all
    go_wp2
    go_ret
    refine ⟨?_, HG.out.1⟩
    unfold cfW
    rw [HC.out]
    rfl
def sortW_ren : Go.Shelf.Ren := ⟨fun | 6 => 64 | 15 => 83 | 14 => 82 | 28 => 98 | 29 => 99 | 20 => 90 | 21 => 91 | 22 => 92 | 23 => 93 | 24 => 94 | 25 => 95 | 26 => 96 | 27 => 97 | 46 => 110 | 47 => 111 | 48 => 112 | 49 => 113 | 50 => 114 | 57 => 121 | n => n, fun | 22 => 56 | 24 => 63 | 25 => 118 | 3 => 3 | 39 => 141 | 0 => 0 | 53 => 30 | 55 => 33 | 4 => 4 | 46 => 151 | 45 => 150 | 50 => 88 | 5 => 5 | 9 => 9 | 66 => 166 | 70 => 170 | 76 => 176 | 77 => 177 | n => n, fun | n => n⟩
theorem sortW : Go.Proofs.SlLaysF0.n6 Try.prog sortW_ren := {
  mixed := by kernel_rfl
  f6 := ⟨Try.f64.name, by decide, Try.func64.trans (congrArg some (by kernel_rfl))⟩
  f14 := ⟨Try.f82.name, by decide, Try.func82.trans (congrArg some (by kernel_rfl))⟩
  f15 := Try.func83.trans (congrArg some (by kernel_rfl))
  f20 := ⟨Try.f90.name, by decide, Try.func90.trans (congrArg some (by kernel_rfl))⟩
  f21 := ⟨Try.f91.name, by decide, Try.func91.trans (congrArg some (by kernel_rfl))⟩
  f22 := ⟨Try.f92.name, by decide, Try.func92.trans (congrArg some (by kernel_rfl))⟩
  f23 := ⟨Try.f93.name, by decide, Try.func93.trans (congrArg some (by kernel_rfl))⟩
  f24 := ⟨Try.f94.name, by decide, Try.func94.trans (congrArg some (by kernel_rfl))⟩
  f25 := ⟨Try.f95.name, by decide, Try.func95.trans (congrArg some (by kernel_rfl))⟩
  f26 := ⟨Try.f96.name, by decide, Try.func96.trans (congrArg some (by kernel_rfl))⟩
  f27 := ⟨Try.f97.name, by decide, Try.func97.trans (congrArg some (by kernel_rfl))⟩
  f28 := Try.func98.trans (congrArg some (by kernel_rfl))
  f29 := Try.func99.trans (congrArg some (by kernel_rfl))
  f46 := ⟨Try.f110.name, by decide, Try.func110.trans (congrArg some (by kernel_rfl))⟩
  f47 := Try.func111.trans (congrArg some (by kernel_rfl))
  f48 := Try.func112.trans (congrArg some (by kernel_rfl))
  f49 := ⟨Try.f113.name, by decide, Try.func113.trans (congrArg some (by kernel_rfl))⟩
  f50 := ⟨Try.f114.name, by decide, Try.func114.trans (congrArg some (by kernel_rfl))⟩
  f57 := ⟨Try.f121.name, by decide, Try.func121.trans (congrArg some (by kernel_rfl))⟩
  t0 := Try.underlying0
  a0 := Try.isAgg0
  z0 := Try.sizeOf0
  v0 := Try.zeroValue0
  t3 := Try.underlying3
  a3 := Try.isAgg3
  z3 := Try.sizeOf3
  v3 := Try.zeroValue3
  t4 := Try.underlying4
  a4 := Try.isAgg4
  z4 := Try.sizeOf4
  v4 := Try.zeroValue4
  t5 := Try.underlying5
  a5 := Try.isAgg5
  z5 := Try.sizeOf5
  v5 := Try.zeroValue5
  t9 := Try.underlying9
  a9 := Try.isAgg9
  z9 := Try.sizeOf9
  v9 := Try.zeroValue9
  t22 := Try.underlying56
  a22 := Try.isAgg56
  z22 := Try.sizeOf56
  v22 := Try.zeroValue56
  t25 := Try.underlying118
  a25 := Try.isAgg118
  z25 := Try.sizeOf118
  v25 := Try.zeroValue118
  t39 := Try.underlying141
  a39 := Try.isAgg141
  z39 := Try.sizeOf141
  v39 := Try.zeroValue141
  t45 := Try.underlying150
  a45 := Try.isAgg150
  z45 := Try.sizeOf150
  v45 := Try.zeroValue150
  t46 := Try.underlying151
  a46 := Try.isAgg151
  z46 := Try.sizeOf151
  v46 := Try.zeroValue151
  t50 := Try.underlying88
  a50 := Try.isAgg88
  z50 := Try.sizeOf88
  v50 := Try.zeroValue88
  t53 := Try.underlying30
  a53 := Try.isAgg30
  z53 := Try.sizeOf30
  v53 := Try.zeroValue30
  t55 := Try.underlying33
  a55 := Try.isAgg33
  z55 := Try.sizeOf33
  v55 := Try.zeroValue33
  t66 := Try.underlying166
  a66 := Try.isAgg166
  z66 := Try.sizeOf166
  v66 := Try.zeroValue166
  t70 := Try.underlying170
  a70 := Try.isAgg170
  z70 := Try.sizeOf170
  v70 := Try.zeroValue170
  t76 := Try.underlying176
  a76 := Try.isAgg176
  z76 := Try.sizeOf176
  v76 := Try.zeroValue176
  t77 := Try.underlying177
  a77 := Try.isAgg177
  z77 := Try.sizeOf177
  v77 := Try.zeroValue177 }
open Go.Maps Go.Sort
theorem cells_rep : ∀ {ps : List S63} {cs : List Value}, Reps (fun p c => c = encL p) 3 ps cs → cs = cellsV ps
  | [], cs, h => List.eq_nil_of_length_eq_zero (by have := h.1; simpa using this)
  | p :: r, cs, h => by
    have h0 := h.2 0 p rfl
    simp only [Nat.zero_mul, List.drop_zero] at h0
    have hr : Reps (fun p c => c = encL p) 3 r (cs.drop 3) := ⟨by have := h.1; rw [List.length_drop]; simp at this; omega, fun j q hj => by
      have := h.2 (j + 1) q (by simpa using hj)
      rw [List.drop_drop, show 3 + j * 3 = (j + 1) * 3 by omega]
      exact this⟩
    have ih := cells_rep hr
    have e : cs = cs.take 3 ++ cs.drop 3 := (List.take_append_drop 3 cs).symm
    rw [e, h0, ih]
    rfl
theorem rep_cells : ∀ (ps : List S63) (base : Nat) (ok : Nat → Prop) (w : World), Reps (k63.M w base ok) 3 ps (cellsV ps)
  | [], base, ok, w => ⟨rfl, fun j p h => by simp at h⟩
  | p :: r, base, ok, w => by
    obtain ⟨h1, h2⟩ := rep_cells r base ok w
    refine ⟨cellsV_len _, fun j q hj => ?_⟩
    have e : cellsV (p :: r) = encL p ++ cellsV r := rfl
    cases j with
    | zero =>
      obtain rfl := Option.some.inj hj
      rw [e, Nat.zero_mul, List.drop_zero, List.take_append_of_le_length (by rw [encL_len]; omega), List.take_of_length_le (by rw [encL_len]; omega)]
      exact k63_mkM _ _ _ _
    | succ j =>
      have := h2 j q (by simpa using hj)
      rw [e, show (j + 1) * 3 = (encL p).length + j * 3 by rw [encL_len]; omega, ← List.drop_drop, List.drop_left]
      exact this
theorem sort_calls (gb cap : Nat) (vs : List S63) (W : World) (hH : HoldsK encL 3 W gb 0 vs.toArray) (hgb : gb < W.heap.size) (hsz : vs.length < 4611686018427387904) :
    Calls Try.prog 64 #[.slice (some ⟨gb, 0, none⟩) vs.length cap, .func (.func 65) #[] #[]] W fun e w' => e = .returned (.tuple #[]) ∧ ∃ (d' : Array S63) (n : Nat) (os : Array Obj), PermIn 0 vs.length vs.toArray d' ∧ SortedIn (ltOf cfW) 0 vs.length d' ∧ w' = grow (putRow id (Sort.ahead W n) gb 0 (flatK encL 3 d')) os := by
  have eg65 : ∀ args w, (callFunc 65 args).run Try.prog w = .ok (.enter 65 args) w := enters_of Try.func65 (by kernel_rfl) rfl
  have hcmp : CmpLays Try.prog 65 #[] encL 3 cfW gb 0 vs.toArray.size W := fun _ _ _ _ x y => cmp_calls x y _
  have h := AnyQ.slices_SortFunc sortW 3 Try.isAgg63 Try.sizeOf63 encL encL_len encL_one cfW swoW 65 #[] gb 0 cap vs.toArray W eg65 hcmp hH hgb (by simpa using hsz)
  simp only [List.size_toArray] at h
  exact h
theorem sorted_perm {L : List S63} {d' : Array S63} (hp : PermIn 0 L.length L.toArray d') (hs : SortedIn (ltOf cfW) 0 L.length d') : d'.toList.Perm L ∧ d'.toList.Pairwise (fun x y => Tree.lt y.f0 x.f0 = false) := by
  obtain ⟨hsz, _, hp2⟩ := hp
  have hsz' : d'.size = L.length := by simpa using hsz
  have e1 : d'.extract 0 L.length = d' := by rw [← hsz']; simp
  have e2 : L.toArray.extract 0 L.length = L.toArray := by simp
  rw [e1, e2] at hp2
  refine ⟨hp2, ?_⟩
  rw [List.pairwise_iff_getElem]
  intro i j hi hj hij
  have hi' : i < d'.size := by simpa using hi
  have hj' : j < d'.size := by simpa using hj
  have := hs i j (Nat.zero_le _) hij (by omega)
  rw [getElem!_pos d' i hi', getElem!_pos d' j hj', cf_lt] at this
  simpa using this
def SortP (W : World) (A : Option Addr) (k : Nat) (ws : List S63) (e : Ending) (W' : World) : Prop := e = .returned (.tuple #[]) ∧ ∃ ws' : List S63, ws'.Perm ws ∧ ws'.Pairwise (fun x y => Tree.lt y.f0 x.f0 = false) ∧ Row k63 63 W' (.slice A ws'.length k) ws' ∧ Mod W W' (ownList (.slice A ws.length k))
theorem sortRow_calls {W : World} {A : Option Addr} {k : Nat} {ws : List S63} (hR : Row k63 63 W (.slice A ws.length k) ws) (hn : 0 < ws.length) (hl : ws.length ≤ 1000000) :
    Calls Try.prog 64 #[.slice A ws.length k, .func (.func 65) #[] #[]] W (SortP W A k ws) := by
  obtain ⟨h0, inner, hrow, hrep⟩ := hR
  have hin : inner = cellsV ws := cells_rep (hrep.imp_ fun p c h => k63_openM h)
  subst hin
  rcases hrow.2 with ⟨e, hz⟩ | ⟨gb, cap, cur, e, hbase, hgb, r1, r2, r3, r4⟩
  · omega
  · injection e with e1 e2 e3
    subst e1 e3
    have hH : HoldsK encL 3 W gb 0 ws.toArray := by
      unfold HoldsK
      rw [flat_eq]
      exact holdsV hgb (by rw [cellsV_len]; exact r4)
    have hgl : gb < W.heap.size := (Array.getElem?_eq_some_iff.1 hgb).1
    refine (sort_calls gb k ws W hH hgl (by omega)).mono ?_
    rintro e W' ⟨rfl, d', nn, os, hp, hs, rfl⟩
    obtain ⟨p1, p2⟩ := sorted_perm hp hs
    have hlen : d'.toList.length = ws.length := p1.length_eq
    have hd : d' = d'.toList.toArray := by simp
    rw [hd, flat_eq]
    refine ⟨rfl, d'.toList, p1, p2, ⟨fun _ _ => trivial, cellsV d'.toList, ?_, rep_cells _ _ _ _⟩, ?_⟩
    · refine ⟨cellsV_len _, .inr ⟨gb, k, _, rfl, hbase, heap_sortedV _ hgb, by rw [hlen]; exact r1, r2, by simp [putCells, r3], ?_⟩⟩
      have hk3 : k63.sz = 3 := rfl
      rw [hk3] at r3
      have h3 := take_putV cur (cellsV d'.toList) (by rw [cellsV_len, r3, hlen]; omega)
      rw [cellsV_len] at h3
      exact h3
    · have hg := grownBy_sortedV (w := W) (g := gb) (n := nn) (os := os) (cellsV d'.toList).toArray
      exact mod_grown (Mod.refl W _) hg (fun y hy => by cases hy; simp [ownList])
end Go.Proofs.Ytdelbidaclddgaa.Lat
