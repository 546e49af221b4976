/- The layer 'order' at owners of keys: 'keys' and 'Get' walked; a seat's own text, no law of its own. -/
import Derived.Test.YtdelbidaclddgaaLatOrdBase
import Derived.ScopeJumps
import Derived.Deep.DeepAppendWide
import Derived.Lib.Hide
import Derived.StillTailTactics
import Derived.Deep.QuietTactic
import Derived.BigQuiet
import Derived.WalkLawsBesides
import Derived.Outline
import Derived.Deep.RegionWith
namespace Go.Proofs.Ytdelbidaclddgaa.Lat
open Go.RowKit Go.Proofs.Ytdelbidaclddgaa.MLatchRuns Go.Proofs.YtdelbidaclddgaaW.PrintLast Go.Proofs.YtdelbidaclddgaaW.PrintWords
set_option linter.unusedVariables false
set_option linter.unusedSimpArgs false
set_option maxHeartbeats 1000000
set_option maxRecDepth 100000
/-- The keys of a range, behind those that there are, as the walk through the tree takes them. -/
def keysT (t : Tree S105) (acc : List ByteArray) (lo hi : ByteArray) (limit : Int) : List ByteArray := match t with
  | .nil => acc
  | .node b k v h l r => if (acc.length : Int) ≥ limit then acc else
      let a1 := if Tree.lt lo k = true then keysT l acc lo hi limit else acc
      let a2 := if (Tree.lt lo k = true ∨ lo.toList = k.toList) ∧ (hi.toList = [] ∨ Tree.lt k hi = true) ∧ (a1.length : Int) < limit then a1 ++ [k] else a1
      if hi.toList = [] ∨ Tree.lt k hi = true then keysT r a2 lo hi limit else a2
def midK (k lo hi : ByteArray) (limit : Int) (a1 : List ByteArray) : List ByteArray := if (Tree.lt lo k = true ∨ lo.toList = k.toList) ∧ (hi.toList = [] ∨ Tree.lt k hi = true) ∧ (a1.length : Int) < limit then a1 ++ [k] else a1
theorem keysT_node (b : Nat) (k : ByteArray) (v : S105) (h : Int) (l r : Tree S105) (acc : List ByteArray) (lo hi : ByteArray) (limit : Int) : keysT (.node b k v h l r) acc lo hi limit =
    if (acc.length : Int) ≥ limit then acc else if hi.toList = [] ∨ Tree.lt k hi = true then keysT r (midK k lo hi limit (if Tree.lt lo k = true then keysT l acc lo hi limit else acc)) lo hi limit
      else midK k lo hi limit (if Tree.lt lo k = true then keysT l acc lo hi limit else acc) := rfl
theorem keysT_len (t : Tree S105) : ∀ (acc : List ByteArray) (lo hi : ByteArray) (limit : Int), acc.length ≤ (keysT t acc lo hi limit).length ∧ (keysT t acc lo hi limit).length ≤ acc.length + t.size := by
  induction t with
  | nil => intro acc lo hi limit; simp [keysT, Tree.size]
  | node b k v h l r il ir =>
    intro acc lo hi limit
    unfold keysT
    split
    · simp only [Tree.size]; omega
    · dsimp only
      have h1 : acc.length ≤ (if Tree.lt lo k = true then keysT l acc lo hi limit else acc).length ∧ (if Tree.lt lo k = true then keysT l acc lo hi limit else acc).length ≤ acc.length + l.size := by
        split
        · exact il acc lo hi limit
        · omega
      generalize (if Tree.lt lo k = true then keysT l acc lo hi limit else acc) = a1 at h1 ⊢
      have h2 : a1.length ≤ (if (Tree.lt lo k = true ∨ lo.toList = k.toList) ∧ (hi.toList = [] ∨ Tree.lt k hi = true) ∧ (a1.length : Int) < limit then a1 ++ [k] else a1).length ∧ (if (Tree.lt lo k = true ∨ lo.toList = k.toList) ∧ (hi.toList = [] ∨ Tree.lt k hi = true) ∧ (a1.length : Int) < limit then a1 ++ [k] else a1).length ≤ a1.length + 1 := by
        split
        · simp
        · omega
      generalize (if (Tree.lt lo k = true ∨ lo.toList = k.toList) ∧ (hi.toList = [] ∨ Tree.lt k hi = true) ∧ (a1.length : Int) < limit then a1 ++ [k] else a1) = a2 at h2 ⊢
      simp only [Tree.size]
      split
      · have := ir a2 lo hi limit
        omega
      · omega
/-- A row of texts of the call's own, or nil. -/
def RowIs (W : World) (v : Value) (xs : List ByteArray) : Prop := ∃ c, v = .slice (match v with | .slice a _ _ => a | _ => none) xs.length c ∧ W.ownsRow 0 9 1 v xs.length (pw_strs xs)
def KeysPost (W : World) (v : Value) (res : List ByteArray) (e : Ending) (W' : World) : Prop :=
  ∃ v', e = .returned v' ∧ W'.ownsRow 0 9 1 v' res.length (pw_strs res) ∧ (∀ y ∈ ownList v', y ∈ ownList v ∨ W.heap.size ≤ y) ∧ Mod W W' (ownList v)
theorem own_slice {W : World} {v : Value} {n : Nat} {xs : List Value} (h : W.ownsRow 0 9 1 v n xs) : ∃ a c, v = .slice a n c := by
  rcases h.2 with ⟨rfl, rfl⟩ | ⟨g, cap, cur, rfl, _⟩
  · exact ⟨none, 0, rfl⟩
  · exact ⟨_, _, rfl⟩
theorem keys_nil {W : World} {a : Option Addr} {c : Nat} {acc : List ByteArray} (lo hi : ByteArray) (limit : Int) (ho : W.ownsRow 0 9 1 (.slice a acc.length c) acc.length (pw_strs acc)) :
    Calls Try.prog 85 #[.pointer none, .slice a acc.length c, .string lo, .string hi, .int .i64 limit] W (KeysPost W (.slice a acc.length c) (keysT .nil acc lo hi limit)) := by
  have HO := Lib.hid ho
  clear ho
  go_enter Try.func85, Try.ntmps85
  go_wp2
  go_ret
  exact ⟨_, rfl, HO.out, fun y hy => .inl hy, Mod.refl _ _⟩
theorem keys_full {W : World} {a : Option Addr} {c : Nat} {acc : List ByteArray} {b : Nat} {k : ByteArray} {v : S105} {h : Int} {l r : Tree S105} (lo hi : ByteArray) (limit : Int) (ho : W.ownsRow 0 9 1 (.slice a acc.length c) acc.length (pw_strs acc)) (hA : At W.heap (.node b k v h l r)) (hf : (acc.length : Int) ≥ limit) :
    Calls Try.prog 85 #[.pointer (some ⟨b, 0, none⟩), .slice a acc.length c, .string lo, .string hi, .int .i64 limit] W (KeysPost W (.slice a acc.length c) (keysT (.node b k v h l r) acc lo hi limit)) := by
  have e : keysT (.node b k v h l r) acc lo hi limit = acc := by unfold keysT; rw [if_pos hf]
  rw [e]
  have c1 : decide (limit ≤ (acc.length : Int)) = true := decide_eq_true hf
  have HO := Lib.hid ho
  clear ho hA e hf
  go_enter Try.func85, Try.ntmps85
  go_wp2
  go_ret
  exact ⟨_, rfl, HO.out, fun y hy => .inl hy, Mod.refl _ _⟩
theorem info9 : (Try.prog.info? 9).map (fun i => (i.zero, i.size, i.bytes)) = some (some (.string ByteArray.empty), 1, 16) := by kernel_rfl
def KeysIH (t : Tree S105) (lo hi : ByteArray) (limit : Int) : Prop := ∀ {W : World} {a : Option Addr} {c : Nat} {acc : List ByteArray}, At W.heap t → (∀ y ∈ ownList (.slice a acc.length c), y ∉ t.blocks) → W.ownsRow 0 9 1 (.slice a acc.length c) acc.length (pw_strs acc) → acc.length + t.size ≤ 1000000000000 →
    Calls Try.prog 85 #[.pointer (addr t), .slice a acc.length c, .string lo, .string hi, .int .i64 limit] W (KeysPost W (.slice a acc.length c) (keysT t acc lo hi limit))
theorem oown_own (a : Option Addr) (n c : Nat) : ∀ y, (Value.slice a n c).ownBlock = some y → y ∈ ownList (.slice a n c) := by
  intro y hy
  cases a with
  | none => simp [Value.ownBlock] at hy
  | some ad =>
    simp only [Value.ownBlock, Option.some.injEq] at hy
    simp [ownList, hy]
theorem omod_grown {W W1 W2 : World} {fp : List Nat} {row : Option Nat} (h : Mod W W1 fp) (hg : W1.grownBy W2 row) (hr : ∀ y, row = some y → y ∈ fp) : Mod W W2 fp :=
  ⟨hg.os.trans h.os, hg.tape.trans h.tape, hg.output.trans h.output, Nat.le_trans h.size hg.size, fun k hk hn => (hg.block k (Nat.lt_of_lt_of_le hk h.size) (fun e => hn (hr k e.symm))).trans (h.block k hk hn)⟩
theorem alloc_size_le (W : World) (o : Obj) : W.heap.size ≤ (W.alloc o).heap.size := by simp
/-- The row that comes out of an append is the one that went in, or a new one. -/
theorem oown_new {W : World} {a1 : Option Addr} {n1 c1 g n2 c2 H : Nat} (hs : W.heap.size ≤ H) (hat : (Value.slice a1 n1 c1).ownBlock = some g ∨ g = H) :
    ∀ y ∈ ownList (.slice (some ⟨g, 0, none⟩) n2 c2), y ∈ ownList (.slice a1 n1 c1) ∨ W.heap.size ≤ y := by
  intro y hy
  simp only [ownList, List.mem_singleton] at hy
  subst hy
  rcases hat with h | h
  · exact .inl (oown_own _ _ _ _ h)
  · exact .inr (by omega)
theorem ochain_new {W W1 : World} {f1 f2 f3 : List Nat} (h1 : ∀ y ∈ f2, y ∈ f1 ∨ W.heap.size ≤ y) (hs : W.heap.size ≤ W1.heap.size) (h2 : ∀ y ∈ f3, y ∈ f2 ∨ W1.heap.size ≤ y) : ∀ y ∈ f3, y ∈ f1 ∨ W.heap.size ≤ y := by
  intro y hy
  rcases h2 y hy with h | h
  · exact h1 y h
  · exact .inr (Nat.le_trans hs h)

set_option maxRecDepth 100000 in
set_option maxHeartbeats 1000000 in
theorem keys_tey {W : World} {a : Option Addr} {c : Nat} {acc : List ByteArray} {b : Nat} {k : ByteArray} {v : S105} {h : Int} {l r : Tree S105} (lo hi : ByteArray) (limit : Int) (ho : W.ownsRow 0 9 1 (.slice a acc.length c) acc.length (pw_strs acc)) (hA : At W.heap (.node b k v h l r)) (hn : (Tree.node b k v h l r).blocks.Nodup)
    (hd : ∀ y ∈ ownList (.slice a acc.length c), y ∉ (Tree.node b k v h l r).blocks) (hs : acc.length + (Tree.node b k v h l r).size ≤ 1000000000000) (h0 : ¬ (acc.length : Int) ≥ limit) (h1 : Tree.lt lo k = true) (h3 : hi.toList = []) (h5 : ((keysT l acc lo hi limit).length : Int) < limit)
    (il : KeysIH l lo hi limit) (ir : KeysIH r lo hi limit) :
    Calls Try.prog 85 #[.pointer (some ⟨b, 0, none⟩), .slice a acc.length c, .string lo, .string hi, .int .i64 limit] W (KeysPost W (.slice a acc.length c) (keysT (.node b k v h l r) acc lo hi limit)) := by
  have e : keysT (.node b k v h l r) acc lo hi limit = keysT r ((keysT l acc lo hi limit) ++ [k]) lo hi limit := by
    have hm : midK k lo hi limit (keysT l acc lo hi limit) = ((keysT l acc lo hi limit) ++ [k]) := by unfold midK; rw [if_pos (⟨.inl h1, .inl h3, h5⟩)]
    rw [keysT_node, if_neg h0, if_pos (Or.inl h3), if_pos h1, hm]
  rw [e]
  have hc0 : W.cell? ⟨b, 0, none⟩ = some (.string k) := (blk_cell hA.1 0).trans rfl
  have hc3 : W.cell? ⟨b, 7, none⟩ = some (.pointer (addr l)) := (blk_cell hA.1 7).trans rfl
  have hc4 : W.cell? ⟨b, 8, none⟩ = some (.pointer (addr r)) := (blk_cell hA.1 8).trans rfl
  have e0 : decide (limit ≤ (acc.length : Int)) = false := decide_eq_false h0
  have e1 : Op.bytesLess lo.toList k.toList = true := h1
  have e3 : hi.toList.isEmpty = true := by rw [h3]; rfl
  have nd := Tree.nd_node hn
  have hsl := keysT_len l acc lo hi limit
  simp only [Tree.size] at hs
  have HX := Lib.hid (And.intro hA (And.intro hn (And.intro hd (And.intro nd (And.intro hs (And.intro hsl ho))))))
  have H5 := Lib.hid h5
  have IL : Hid (KeysIH l lo hi limit) := Lib.hid (p := KeysIH l lo hi limit) @il
  have IR : Hid (KeysIH r lo hi limit) := Lib.hid (p := KeysIH r lo hi limit) @ir
  clear e hA hn hd hs h0 h1 h3 h5 nd hsl ho il ir
  obtain ⟨i0, hi0, hz0, hz1, hz2⟩ := info_parts info9
  go_enter Try.func85, Try.ntmps85
  go_wp2_with fail
  refine (IL.out HX.out.1.2.1 (fun y hy hm => HX.out.2.2.1 y hy (by simp [Tree.blocks, hm])) HX.out.2.2.2.2.2.2 (by have := HX.out.2.2.2.2.1; omega)).mono ?_
  rintro e W1 ⟨v1, rfl, ho1, hf1, hM1⟩
  obtain ⟨a1, c1, rfl⟩ := own_slice ho1
  have hA1 : At W1.heap (.node b k v h l r) := at_mod HX.out.1 hM1 (fun y hy hm => HX.out.2.2.1 y hm hy)
  have hd1 : ∀ y ∈ ownList (.slice a1 (keysT l acc lo hi limit).length c1), y ∉ (Tree.node b k v h l r).blocks := fun y hy hm => by
    rcases hf1 y hy with hh | hh
    · exact HX.out.2.2.1 y hh hm
    · have := at_lt HX.out.1 y hm; omega
  replace hc0 : W1.cell? ⟨b, 0, none⟩ = some (.string k) := (blk_cell hA1.1 0).trans rfl
  replace hc3 : W1.cell? ⟨b, 7, none⟩ = some (.pointer (addr l)) := (blk_cell hA1.1 7).trans rfl
  replace hc4 : W1.cell? ⟨b, 8, none⟩ = some (.pointer (addr r)) := (blk_cell hA1.1 8).trans rfl
  have e5 : decide (((keysT l acc lo hi limit).length : Int) < limit) = true := decide_eq_true (H5.out)
  have HY := Lib.hid (And.intro ho1 (And.intro hf1 (And.intro hM1 (And.intro hA1 hd1))))
  clear ho1 hf1 hM1 hA1 hd1
  generalize hk1 : keysT l acc lo hi limit = acc1 at *
  have HK := Lib.hid hk1
  clear hk1
  have hbd : acc1.length ≤ 1000000000000 := by have := HX.out.2.2.2.2; omega
  go_wp2_with (first | (at_builtin; refine wpList_append_lies _ rfl _ _ 120 rfl 0 9 i0 (.string ByteArray.empty) 1 16 Try.underlying120 hi0 hz0 hz1 hz2 rfl (by decide) (.slice a1 acc1.length c1) acc1.length (pw_strs acc1) rfl (HY.out.1.alloc _) ⟨W1.heap.size, 0, none⟩ 1 1 [.string k] rfl rfl ?c1 ?c2 (by decide) ?c3 ?c4 ?c5 _ rfl ?_) | fail)
  case c1 => exact cell_one_new _ _ _
  case c2 => intro u hu; rw [List.mem_singleton.1 hu]; rfl
  case c3 => simp only [maxLen]; omega
  case c4 => omega
  case c5 => exact Nat.zero_le _
  intro g2 c2 W2 ho2 hg2 hat2 _
  have hst : pw_strs acc1 ++ [Value.string k] = pw_strs (acc1 ++ [k]) := by simp [pw_strs]
  have hln : acc1.length + 1 = (acc1 ++ [k]).length := by simp
  rw [hst] at ho2
  rw [hln] at ho2 ⊢
  have hM2 := omod_grown ((Mod.refl W1 (ownList (.slice a1 acc1.length c1))).alloc _) hg2 (oown_own _ _ _)
  have hf2 : ∀ y ∈ ownList (.slice (some ⟨g2, 0, none⟩) (acc1 ++ [k]).length c2), y ∈ ownList (.slice a1 acc1.length c1) ∨ W1.heap.size ≤ y := fun y hy => oown_new (Nat.le_add_right _ 1) hat2 y hy
  have HZ := Lib.hid (And.intro ho2 (And.intro hM2 hf2))
  clear ho2 hg2 hat2 hM2 hf2 hst hln
  have hA2 : At W2.heap (.node b k v h l r) := at_mod HY.out.2.2.2.1 HZ.out.2.1 (fun y hy hm => HY.out.2.2.2.2 y hm hy)
  replace hc0 : W2.cell? ⟨b, 0, none⟩ = some (.string k) := (blk_cell hA2.1 0).trans rfl
  replace hc3 : W2.cell? ⟨b, 7, none⟩ = some (.pointer (addr l)) := (blk_cell hA2.1 7).trans rfl
  replace hc4 : W2.cell? ⟨b, 8, none⟩ = some (.pointer (addr r)) := (blk_cell hA2.1 8).trans rfl
  have HA2 := Lib.hid hA2
  clear hA2
  have hd2 : ∀ y ∈ ownList (.slice (some ⟨g2, 0, none⟩) (acc1 ++ [k]).length c2), y ∉ (Tree.node b k v h l r).blocks := fun y hy hm => by
    rcases HZ.out.2.2 y hy with hh | hh
    · exact HY.out.2.2.2.2 y hh hm
    · have := at_lt HY.out.2.2.2.1 y hm; omega
  have HD := Lib.hid hd2
  clear hd2
  have HT := Lib.hid (And.intro HZ.out.1 (And.intro (fun y hy => ochain_new HY.out.2.1 HY.out.2.2.1.size HZ.out.2.2 y hy) (HY.out.2.2.1.trans HZ.out.2.1 HY.out.2.1)))
  generalize hk2 : acc1 ++ [k] = acc2 at *
  have HK2 := Lib.hid hk2
  clear hk2
  go_wp2_with fail
  refine (IR.out HA2.out.2.2 (fun y hy hm => HD.out y hy (by simp [Tree.blocks, hm])) HT.out.1 ?hsz).mono ?_
  case hsz =>
    have q1 := HX.out.2.2.2.2
    have q2 : acc2.length = acc1.length + 1 := by rw [← HK2.out]; simp
    have q3 := HK.out
    omega
  rintro e W3 ⟨v3, rfl, ho3, hf3, hM3⟩
  obtain ⟨a3, c3, rfl⟩ := own_slice ho3
  have HE := Lib.hid (And.intro ho3 (And.intro hf3 hM3))
  clear ho3 hf3 hM3
  go_wp2
  go_ret
  have hk2 := HK2.out
  subst hk2
  have hk1 := HK.out
  subst hk1
  exact ⟨_, rfl, HE.out.1, fun y hy => ochain_new HT.out.2.1 HT.out.2.2.size HE.out.2.1 y hy, HT.out.2.2.trans HE.out.2.2 HT.out.2.1⟩

set_option maxRecDepth 100000 in
set_option maxHeartbeats 1000000 in
theorem keys_tez {W : World} {a : Option Addr} {c : Nat} {acc : List ByteArray} {b : Nat} {k : ByteArray} {v : S105} {h : Int} {l r : Tree S105} (lo hi : ByteArray) (limit : Int) (ho : W.ownsRow 0 9 1 (.slice a acc.length c) acc.length (pw_strs acc)) (hA : At W.heap (.node b k v h l r)) (hn : (Tree.node b k v h l r).blocks.Nodup)
    (hd : ∀ y ∈ ownList (.slice a acc.length c), y ∉ (Tree.node b k v h l r).blocks) (hs : acc.length + (Tree.node b k v h l r).size ≤ 1000000000000) (h0 : ¬ (acc.length : Int) ≥ limit) (h1 : Tree.lt lo k = true) (h3 : hi.toList = []) (h5 : ¬ ((keysT l acc lo hi limit).length : Int) < limit)
    (il : KeysIH l lo hi limit) (ir : KeysIH r lo hi limit) :
    Calls Try.prog 85 #[.pointer (some ⟨b, 0, none⟩), .slice a acc.length c, .string lo, .string hi, .int .i64 limit] W (KeysPost W (.slice a acc.length c) (keysT (.node b k v h l r) acc lo hi limit)) := by
  have e : keysT (.node b k v h l r) acc lo hi limit = keysT r (keysT l acc lo hi limit) lo hi limit := by
    have hm : midK k lo hi limit (keysT l acc lo hi limit) = (keysT l acc lo hi limit) := by unfold midK; rw [if_neg (fun hh => h5 hh.2.2)]
    rw [keysT_node, if_neg h0, if_pos (Or.inl h3), if_pos h1, hm]
  rw [e]
  have hc0 : W.cell? ⟨b, 0, none⟩ = some (.string k) := (blk_cell hA.1 0).trans rfl
  have hc3 : W.cell? ⟨b, 7, none⟩ = some (.pointer (addr l)) := (blk_cell hA.1 7).trans rfl
  have hc4 : W.cell? ⟨b, 8, none⟩ = some (.pointer (addr r)) := (blk_cell hA.1 8).trans rfl
  have e0 : decide (limit ≤ (acc.length : Int)) = false := decide_eq_false h0
  have e1 : Op.bytesLess lo.toList k.toList = true := h1
  have e3 : hi.toList.isEmpty = true := by rw [h3]; rfl
  have nd := Tree.nd_node hn
  have hsl := keysT_len l acc lo hi limit
  simp only [Tree.size] at hs
  have HX := Lib.hid (And.intro hA (And.intro hn (And.intro hd (And.intro nd (And.intro hs (And.intro hsl ho))))))
  have H5 := Lib.hid h5
  have IL : Hid (KeysIH l lo hi limit) := Lib.hid (p := KeysIH l lo hi limit) @il
  have IR : Hid (KeysIH r lo hi limit) := Lib.hid (p := KeysIH r lo hi limit) @ir
  clear e hA hn hd hs h0 h1 h3 h5 nd hsl ho il ir
  go_enter Try.func85, Try.ntmps85
  go_wp2_with fail
  refine (IL.out HX.out.1.2.1 (fun y hy hm => HX.out.2.2.1 y hy (by simp [Tree.blocks, hm])) HX.out.2.2.2.2.2.2 (by have := HX.out.2.2.2.2.1; omega)).mono ?_
  rintro e W1 ⟨v1, rfl, ho1, hf1, hM1⟩
  obtain ⟨a1, c1, rfl⟩ := own_slice ho1
  have hA1 : At W1.heap (.node b k v h l r) := at_mod HX.out.1 hM1 (fun y hy hm => HX.out.2.2.1 y hm hy)
  have hd1 : ∀ y ∈ ownList (.slice a1 (keysT l acc lo hi limit).length c1), y ∉ (Tree.node b k v h l r).blocks := fun y hy hm => by
    rcases hf1 y hy with hh | hh
    · exact HX.out.2.2.1 y hh hm
    · have := at_lt HX.out.1 y hm; omega
  replace hc0 : W1.cell? ⟨b, 0, none⟩ = some (.string k) := (blk_cell hA1.1 0).trans rfl
  replace hc3 : W1.cell? ⟨b, 7, none⟩ = some (.pointer (addr l)) := (blk_cell hA1.1 7).trans rfl
  replace hc4 : W1.cell? ⟨b, 8, none⟩ = some (.pointer (addr r)) := (blk_cell hA1.1 8).trans rfl
  have e5 : decide (((keysT l acc lo hi limit).length : Int) < limit) = false := decide_eq_false (by have := H5.out; omega)
  have HY := Lib.hid (And.intro ho1 (And.intro hf1 (And.intro hM1 (And.intro hA1 hd1))))
  clear ho1 hf1 hM1 hA1 hd1
  generalize hk1 : keysT l acc lo hi limit = acc1 at *
  have HK := Lib.hid hk1
  clear hk1
  have hbd : acc1.length ≤ 1000000000000 := by have := HX.out.2.2.2.2; omega
  have HA2 := Lib.hid HY.out.2.2.2.1
  have HD := Lib.hid HY.out.2.2.2.2
  have HT := Lib.hid (And.intro HY.out.1 (And.intro HY.out.2.1 HY.out.2.2.1))
  go_wp2_with fail
  refine (IR.out HA2.out.2.2 (fun y hy hm => HD.out y hy (by simp [Tree.blocks, hm])) HT.out.1 ?hsz).mono ?_
  case hsz =>
    have q1 := HX.out.2.2.2.2
    have q3 := HK.out
    omega
  rintro e W3 ⟨v3, rfl, ho3, hf3, hM3⟩
  obtain ⟨a3, c3, rfl⟩ := own_slice ho3
  have HE := Lib.hid (And.intro ho3 (And.intro hf3 hM3))
  clear ho3 hf3 hM3
  go_wp2
  go_ret
  have hk1 := HK.out
  subst hk1
  exact ⟨_, rfl, HE.out.1, fun y hy => ochain_new HT.out.2.1 HT.out.2.2.size HE.out.2.1 y hy, HT.out.2.2.trans HE.out.2.2 HT.out.2.1⟩

set_option maxRecDepth 100000 in
set_option maxHeartbeats 1000000 in
theorem keys_tly {W : World} {a : Option Addr} {c : Nat} {acc : List ByteArray} {b : Nat} {k : ByteArray} {v : S105} {h : Int} {l r : Tree S105} (lo hi : ByteArray) (limit : Int) (ho : W.ownsRow 0 9 1 (.slice a acc.length c) acc.length (pw_strs acc)) (hA : At W.heap (.node b k v h l r)) (hn : (Tree.node b k v h l r).blocks.Nodup)
    (hd : ∀ y ∈ ownList (.slice a acc.length c), y ∉ (Tree.node b k v h l r).blocks) (hs : acc.length + (Tree.node b k v h l r).size ≤ 1000000000000) (h0 : ¬ (acc.length : Int) ≥ limit) (h1 : Tree.lt lo k = true) (h3 : hi.toList ≠ []) (h4 : Tree.lt k hi = true) (h5 : ((keysT l acc lo hi limit).length : Int) < limit)
    (il : KeysIH l lo hi limit) (ir : KeysIH r lo hi limit) :
    Calls Try.prog 85 #[.pointer (some ⟨b, 0, none⟩), .slice a acc.length c, .string lo, .string hi, .int .i64 limit] W (KeysPost W (.slice a acc.length c) (keysT (.node b k v h l r) acc lo hi limit)) := by
  have e : keysT (.node b k v h l r) acc lo hi limit = keysT r ((keysT l acc lo hi limit) ++ [k]) lo hi limit := by
    have hm : midK k lo hi limit (keysT l acc lo hi limit) = ((keysT l acc lo hi limit) ++ [k]) := by unfold midK; rw [if_pos (⟨.inl h1, .inr h4, h5⟩)]
    rw [keysT_node, if_neg h0, if_pos (Or.inr h4), if_pos h1, hm]
  rw [e]
  have hc0 : W.cell? ⟨b, 0, none⟩ = some (.string k) := (blk_cell hA.1 0).trans rfl
  have hc3 : W.cell? ⟨b, 7, none⟩ = some (.pointer (addr l)) := (blk_cell hA.1 7).trans rfl
  have hc4 : W.cell? ⟨b, 8, none⟩ = some (.pointer (addr r)) := (blk_cell hA.1 8).trans rfl
  have e0 : decide (limit ≤ (acc.length : Int)) = false := decide_eq_false h0
  have e1 : Op.bytesLess lo.toList k.toList = true := h1
  have e3 : hi.toList.isEmpty = false := by cases hz : hi.toList with | nil => exact absurd hz h3 | cons _ _ => rfl
  have e4 : Op.bytesLess k.toList hi.toList = true := h4
  have nd := Tree.nd_node hn
  have hsl := keysT_len l acc lo hi limit
  simp only [Tree.size] at hs
  have HX := Lib.hid (And.intro hA (And.intro hn (And.intro hd (And.intro nd (And.intro hs (And.intro hsl ho))))))
  have H5 := Lib.hid h5
  have IL : Hid (KeysIH l lo hi limit) := Lib.hid (p := KeysIH l lo hi limit) @il
  have IR : Hid (KeysIH r lo hi limit) := Lib.hid (p := KeysIH r lo hi limit) @ir
  clear e hA hn hd hs h0 h1 h3 h4 h5 nd hsl ho il ir
  obtain ⟨i0, hi0, hz0, hz1, hz2⟩ := info_parts info9
  go_enter Try.func85, Try.ntmps85
  go_wp2_with fail
  refine (IL.out HX.out.1.2.1 (fun y hy hm => HX.out.2.2.1 y hy (by simp [Tree.blocks, hm])) HX.out.2.2.2.2.2.2 (by have := HX.out.2.2.2.2.1; omega)).mono ?_
  rintro e W1 ⟨v1, rfl, ho1, hf1, hM1⟩
  obtain ⟨a1, c1, rfl⟩ := own_slice ho1
  have hA1 : At W1.heap (.node b k v h l r) := at_mod HX.out.1 hM1 (fun y hy hm => HX.out.2.2.1 y hm hy)
  have hd1 : ∀ y ∈ ownList (.slice a1 (keysT l acc lo hi limit).length c1), y ∉ (Tree.node b k v h l r).blocks := fun y hy hm => by
    rcases hf1 y hy with hh | hh
    · exact HX.out.2.2.1 y hh hm
    · have := at_lt HX.out.1 y hm; omega
  replace hc0 : W1.cell? ⟨b, 0, none⟩ = some (.string k) := (blk_cell hA1.1 0).trans rfl
  replace hc3 : W1.cell? ⟨b, 7, none⟩ = some (.pointer (addr l)) := (blk_cell hA1.1 7).trans rfl
  replace hc4 : W1.cell? ⟨b, 8, none⟩ = some (.pointer (addr r)) := (blk_cell hA1.1 8).trans rfl
  have e5 : decide (((keysT l acc lo hi limit).length : Int) < limit) = true := decide_eq_true (H5.out)
  have HY := Lib.hid (And.intro ho1 (And.intro hf1 (And.intro hM1 (And.intro hA1 hd1))))
  clear ho1 hf1 hM1 hA1 hd1
  generalize hk1 : keysT l acc lo hi limit = acc1 at *
  have HK := Lib.hid hk1
  clear hk1
  have hbd : acc1.length ≤ 1000000000000 := by have := HX.out.2.2.2.2; omega
  go_wp2_with (first | (at_builtin; refine wpList_append_lies _ rfl _ _ 120 rfl 0 9 i0 (.string ByteArray.empty) 1 16 Try.underlying120 hi0 hz0 hz1 hz2 rfl (by decide) (.slice a1 acc1.length c1) acc1.length (pw_strs acc1) rfl (HY.out.1.alloc _) ⟨W1.heap.size, 0, none⟩ 1 1 [.string k] rfl rfl ?c1 ?c2 (by decide) ?c3 ?c4 ?c5 _ rfl ?_) | fail)
  case c1 => exact cell_one_new _ _ _
  case c2 => intro u hu; rw [List.mem_singleton.1 hu]; rfl
  case c3 => simp only [maxLen]; omega
  case c4 => omega
  case c5 => exact Nat.zero_le _
  intro g2 c2 W2 ho2 hg2 hat2 _
  have hst : pw_strs acc1 ++ [Value.string k] = pw_strs (acc1 ++ [k]) := by simp [pw_strs]
  have hln : acc1.length + 1 = (acc1 ++ [k]).length := by simp
  rw [hst] at ho2
  rw [hln] at ho2 ⊢
  have hM2 := omod_grown ((Mod.refl W1 (ownList (.slice a1 acc1.length c1))).alloc _) hg2 (oown_own _ _ _)
  have hf2 : ∀ y ∈ ownList (.slice (some ⟨g2, 0, none⟩) (acc1 ++ [k]).length c2), y ∈ ownList (.slice a1 acc1.length c1) ∨ W1.heap.size ≤ y := fun y hy => oown_new (Nat.le_add_right _ 1) hat2 y hy
  have HZ := Lib.hid (And.intro ho2 (And.intro hM2 hf2))
  clear ho2 hg2 hat2 hM2 hf2 hst hln
  have hA2 : At W2.heap (.node b k v h l r) := at_mod HY.out.2.2.2.1 HZ.out.2.1 (fun y hy hm => HY.out.2.2.2.2 y hm hy)
  replace hc0 : W2.cell? ⟨b, 0, none⟩ = some (.string k) := (blk_cell hA2.1 0).trans rfl
  replace hc3 : W2.cell? ⟨b, 7, none⟩ = some (.pointer (addr l)) := (blk_cell hA2.1 7).trans rfl
  replace hc4 : W2.cell? ⟨b, 8, none⟩ = some (.pointer (addr r)) := (blk_cell hA2.1 8).trans rfl
  have HA2 := Lib.hid hA2
  clear hA2
  have hd2 : ∀ y ∈ ownList (.slice (some ⟨g2, 0, none⟩) (acc1 ++ [k]).length c2), y ∉ (Tree.node b k v h l r).blocks := fun y hy hm => by
    rcases HZ.out.2.2 y hy with hh | hh
    · exact HY.out.2.2.2.2 y hh hm
    · have := at_lt HY.out.2.2.2.1 y hm; omega
  have HD := Lib.hid hd2
  clear hd2
  have HT := Lib.hid (And.intro HZ.out.1 (And.intro (fun y hy => ochain_new HY.out.2.1 HY.out.2.2.1.size HZ.out.2.2 y hy) (HY.out.2.2.1.trans HZ.out.2.1 HY.out.2.1)))
  generalize hk2 : acc1 ++ [k] = acc2 at *
  have HK2 := Lib.hid hk2
  clear hk2
  go_wp2_with fail
  refine (IR.out HA2.out.2.2 (fun y hy hm => HD.out y hy (by simp [Tree.blocks, hm])) HT.out.1 ?hsz).mono ?_
  case hsz =>
    have q1 := HX.out.2.2.2.2
    have q2 : acc2.length = acc1.length + 1 := by rw [← HK2.out]; simp
    have q3 := HK.out
    omega
  rintro e W3 ⟨v3, rfl, ho3, hf3, hM3⟩
  obtain ⟨a3, c3, rfl⟩ := own_slice ho3
  have HE := Lib.hid (And.intro ho3 (And.intro hf3 hM3))
  clear ho3 hf3 hM3
  go_wp2
  go_ret
  have hk2 := HK2.out
  subst hk2
  have hk1 := HK.out
  subst hk1
  exact ⟨_, rfl, HE.out.1, fun y hy => ochain_new HT.out.2.1 HT.out.2.2.size HE.out.2.1 y hy, HT.out.2.2.trans HE.out.2.2 HT.out.2.1⟩

set_option maxRecDepth 100000 in
set_option maxHeartbeats 1000000 in
theorem keys_tlz {W : World} {a : Option Addr} {c : Nat} {acc : List ByteArray} {b : Nat} {k : ByteArray} {v : S105} {h : Int} {l r : Tree S105} (lo hi : ByteArray) (limit : Int) (ho : W.ownsRow 0 9 1 (.slice a acc.length c) acc.length (pw_strs acc)) (hA : At W.heap (.node b k v h l r)) (hn : (Tree.node b k v h l r).blocks.Nodup)
    (hd : ∀ y ∈ ownList (.slice a acc.length c), y ∉ (Tree.node b k v h l r).blocks) (hs : acc.length + (Tree.node b k v h l r).size ≤ 1000000000000) (h0 : ¬ (acc.length : Int) ≥ limit) (h1 : Tree.lt lo k = true) (h3 : hi.toList ≠ []) (h4 : Tree.lt k hi = true) (h5 : ¬ ((keysT l acc lo hi limit).length : Int) < limit)
    (il : KeysIH l lo hi limit) (ir : KeysIH r lo hi limit) :
    Calls Try.prog 85 #[.pointer (some ⟨b, 0, none⟩), .slice a acc.length c, .string lo, .string hi, .int .i64 limit] W (KeysPost W (.slice a acc.length c) (keysT (.node b k v h l r) acc lo hi limit)) := by
  have e : keysT (.node b k v h l r) acc lo hi limit = keysT r (keysT l acc lo hi limit) lo hi limit := by
    have hm : midK k lo hi limit (keysT l acc lo hi limit) = (keysT l acc lo hi limit) := by unfold midK; rw [if_neg (fun hh => h5 hh.2.2)]
    rw [keysT_node, if_neg h0, if_pos (Or.inr h4), if_pos h1, hm]
  rw [e]
  have hc0 : W.cell? ⟨b, 0, none⟩ = some (.string k) := (blk_cell hA.1 0).trans rfl
  have hc3 : W.cell? ⟨b, 7, none⟩ = some (.pointer (addr l)) := (blk_cell hA.1 7).trans rfl
  have hc4 : W.cell? ⟨b, 8, none⟩ = some (.pointer (addr r)) := (blk_cell hA.1 8).trans rfl
  have e0 : decide (limit ≤ (acc.length : Int)) = false := decide_eq_false h0
  have e1 : Op.bytesLess lo.toList k.toList = true := h1
  have e3 : hi.toList.isEmpty = false := by cases hz : hi.toList with | nil => exact absurd hz h3 | cons _ _ => rfl
  have e4 : Op.bytesLess k.toList hi.toList = true := h4
  have nd := Tree.nd_node hn
  have hsl := keysT_len l acc lo hi limit
  simp only [Tree.size] at hs
  have HX := Lib.hid (And.intro hA (And.intro hn (And.intro hd (And.intro nd (And.intro hs (And.intro hsl ho))))))
  have H5 := Lib.hid h5
  have IL : Hid (KeysIH l lo hi limit) := Lib.hid (p := KeysIH l lo hi limit) @il
  have IR : Hid (KeysIH r lo hi limit) := Lib.hid (p := KeysIH r lo hi limit) @ir
  clear e hA hn hd hs h0 h1 h3 h4 h5 nd hsl ho il ir
  go_enter Try.func85, Try.ntmps85
  go_wp2_with fail
  refine (IL.out HX.out.1.2.1 (fun y hy hm => HX.out.2.2.1 y hy (by simp [Tree.blocks, hm])) HX.out.2.2.2.2.2.2 (by have := HX.out.2.2.2.2.1; omega)).mono ?_
  rintro e W1 ⟨v1, rfl, ho1, hf1, hM1⟩
  obtain ⟨a1, c1, rfl⟩ := own_slice ho1
  have hA1 : At W1.heap (.node b k v h l r) := at_mod HX.out.1 hM1 (fun y hy hm => HX.out.2.2.1 y hm hy)
  have hd1 : ∀ y ∈ ownList (.slice a1 (keysT l acc lo hi limit).length c1), y ∉ (Tree.node b k v h l r).blocks := fun y hy hm => by
    rcases hf1 y hy with hh | hh
    · exact HX.out.2.2.1 y hh hm
    · have := at_lt HX.out.1 y hm; omega
  replace hc0 : W1.cell? ⟨b, 0, none⟩ = some (.string k) := (blk_cell hA1.1 0).trans rfl
  replace hc3 : W1.cell? ⟨b, 7, none⟩ = some (.pointer (addr l)) := (blk_cell hA1.1 7).trans rfl
  replace hc4 : W1.cell? ⟨b, 8, none⟩ = some (.pointer (addr r)) := (blk_cell hA1.1 8).trans rfl
  have e5 : decide (((keysT l acc lo hi limit).length : Int) < limit) = false := decide_eq_false (by have := H5.out; omega)
  have HY := Lib.hid (And.intro ho1 (And.intro hf1 (And.intro hM1 (And.intro hA1 hd1))))
  clear ho1 hf1 hM1 hA1 hd1
  generalize hk1 : keysT l acc lo hi limit = acc1 at *
  have HK := Lib.hid hk1
  clear hk1
  have hbd : acc1.length ≤ 1000000000000 := by have := HX.out.2.2.2.2; omega
  have HA2 := Lib.hid HY.out.2.2.2.1
  have HD := Lib.hid HY.out.2.2.2.2
  have HT := Lib.hid (And.intro HY.out.1 (And.intro HY.out.2.1 HY.out.2.2.1))
  go_wp2_with fail
  refine (IR.out HA2.out.2.2 (fun y hy hm => HD.out y hy (by simp [Tree.blocks, hm])) HT.out.1 ?hsz).mono ?_
  case hsz =>
    have q1 := HX.out.2.2.2.2
    have q3 := HK.out
    omega
  rintro e W3 ⟨v3, rfl, ho3, hf3, hM3⟩
  obtain ⟨a3, c3, rfl⟩ := own_slice ho3
  have HE := Lib.hid (And.intro ho3 (And.intro hf3 hM3))
  clear ho3 hf3 hM3
  go_wp2
  go_ret
  have hk1 := HK.out
  subst hk1
  exact ⟨_, rfl, HE.out.1, fun y hy => ochain_new HT.out.2.1 HT.out.2.2.size HE.out.2.1 y hy, HT.out.2.2.trans HE.out.2.2 HT.out.2.1⟩

set_option maxRecDepth 100000 in
set_option maxHeartbeats 1000000 in
theorem keys_tn {W : World} {a : Option Addr} {c : Nat} {acc : List ByteArray} {b : Nat} {k : ByteArray} {v : S105} {h : Int} {l r : Tree S105} (lo hi : ByteArray) (limit : Int) (ho : W.ownsRow 0 9 1 (.slice a acc.length c) acc.length (pw_strs acc)) (hA : At W.heap (.node b k v h l r)) (hn : (Tree.node b k v h l r).blocks.Nodup)
    (hd : ∀ y ∈ ownList (.slice a acc.length c), y ∉ (Tree.node b k v h l r).blocks) (hs : acc.length + (Tree.node b k v h l r).size ≤ 1000000000000) (h0 : ¬ (acc.length : Int) ≥ limit) (h1 : Tree.lt lo k = true) (h3 : hi.toList ≠ []) (h4 : Tree.lt k hi = false) 
    (il : KeysIH l lo hi limit) (ir : KeysIH r lo hi limit) :
    Calls Try.prog 85 #[.pointer (some ⟨b, 0, none⟩), .slice a acc.length c, .string lo, .string hi, .int .i64 limit] W (KeysPost W (.slice a acc.length c) (keysT (.node b k v h l r) acc lo hi limit)) := by
  have e : keysT (.node b k v h l r) acc lo hi limit = (keysT l acc lo hi limit) := by
    have hm : midK k lo hi limit (keysT l acc lo hi limit) = (keysT l acc lo hi limit) := by unfold midK; rw [if_neg (fun hh => hh.2.1.elim h3 (fun z => by rw [h4] at z; cases z))]
    rw [keysT_node, if_neg h0, if_neg (fun hh => hh.elim h3 (fun z => by rw [h4] at z; cases z)), if_pos h1, hm]
  rw [e]
  have hc0 : W.cell? ⟨b, 0, none⟩ = some (.string k) := (blk_cell hA.1 0).trans rfl
  have hc3 : W.cell? ⟨b, 7, none⟩ = some (.pointer (addr l)) := (blk_cell hA.1 7).trans rfl
  have hc4 : W.cell? ⟨b, 8, none⟩ = some (.pointer (addr r)) := (blk_cell hA.1 8).trans rfl
  have e0 : decide (limit ≤ (acc.length : Int)) = false := decide_eq_false h0
  have e1 : Op.bytesLess lo.toList k.toList = true := h1
  have e3 : hi.toList.isEmpty = false := by cases hz : hi.toList with | nil => exact absurd hz h3 | cons _ _ => rfl
  have e4 : Op.bytesLess k.toList hi.toList = false := h4
  have nd := Tree.nd_node hn
  have hsl := keysT_len l acc lo hi limit
  simp only [Tree.size] at hs
  have HX := Lib.hid (And.intro hA (And.intro hn (And.intro hd (And.intro nd (And.intro hs (And.intro hsl ho))))))
  have IL : Hid (KeysIH l lo hi limit) := Lib.hid (p := KeysIH l lo hi limit) @il
  have IR : Hid (KeysIH r lo hi limit) := Lib.hid (p := KeysIH r lo hi limit) @ir
  clear e hA hn hd hs h0 h1 h3 h4  nd hsl ho il ir
  go_enter Try.func85, Try.ntmps85
  go_wp2_with fail
  refine (IL.out HX.out.1.2.1 (fun y hy hm => HX.out.2.2.1 y hy (by simp [Tree.blocks, hm])) HX.out.2.2.2.2.2.2 (by have := HX.out.2.2.2.2.1; omega)).mono ?_
  rintro e W1 ⟨v1, rfl, ho1, hf1, hM1⟩
  obtain ⟨a1, c1, rfl⟩ := own_slice ho1
  have hA1 : At W1.heap (.node b k v h l r) := at_mod HX.out.1 hM1 (fun y hy hm => HX.out.2.2.1 y hm hy)
  have hd1 : ∀ y ∈ ownList (.slice a1 (keysT l acc lo hi limit).length c1), y ∉ (Tree.node b k v h l r).blocks := fun y hy hm => by
    rcases hf1 y hy with hh | hh
    · exact HX.out.2.2.1 y hh hm
    · have := at_lt HX.out.1 y hm; omega
  replace hc0 : W1.cell? ⟨b, 0, none⟩ = some (.string k) := (blk_cell hA1.1 0).trans rfl
  replace hc3 : W1.cell? ⟨b, 7, none⟩ = some (.pointer (addr l)) := (blk_cell hA1.1 7).trans rfl
  replace hc4 : W1.cell? ⟨b, 8, none⟩ = some (.pointer (addr r)) := (blk_cell hA1.1 8).trans rfl
  have HY := Lib.hid (And.intro ho1 (And.intro hf1 (And.intro hM1 (And.intro hA1 hd1))))
  clear ho1 hf1 hM1 hA1 hd1
  generalize hk1 : keysT l acc lo hi limit = acc1 at *
  have HK := Lib.hid hk1
  clear hk1
  have hbd : acc1.length ≤ 1000000000000 := by have := HX.out.2.2.2.2; omega
  have HA2 := Lib.hid HY.out.2.2.2.1
  have HD := Lib.hid HY.out.2.2.2.2
  have HT := Lib.hid (And.intro HY.out.1 (And.intro HY.out.2.1 HY.out.2.2.1))
  go_wp2
  go_ret
  have hk1 := HK.out
  subst hk1
  exact ⟨_, rfl, HT.out.1, HT.out.2.1, HT.out.2.2⟩

set_option maxRecDepth 100000 in
set_option maxHeartbeats 1000000 in
theorem keys_eey {W : World} {a : Option Addr} {c : Nat} {acc : List ByteArray} {b : Nat} {k : ByteArray} {v : S105} {h : Int} {l r : Tree S105} (lo hi : ByteArray) (limit : Int) (ho : W.ownsRow 0 9 1 (.slice a acc.length c) acc.length (pw_strs acc)) (hA : At W.heap (.node b k v h l r)) (hn : (Tree.node b k v h l r).blocks.Nodup)
    (hd : ∀ y ∈ ownList (.slice a acc.length c), y ∉ (Tree.node b k v h l r).blocks) (hs : acc.length + (Tree.node b k v h l r).size ≤ 1000000000000) (h0 : ¬ (acc.length : Int) ≥ limit) (h1 : Tree.lt lo k = false) (h2 : lo.toList = k.toList) (h3 : hi.toList = []) (h5 : (acc.length : Int) < limit)
    (il : KeysIH l lo hi limit) (ir : KeysIH r lo hi limit) :
    Calls Try.prog 85 #[.pointer (some ⟨b, 0, none⟩), .slice a acc.length c, .string lo, .string hi, .int .i64 limit] W (KeysPost W (.slice a acc.length c) (keysT (.node b k v h l r) acc lo hi limit)) := by
  have e : keysT (.node b k v h l r) acc lo hi limit = keysT r (acc ++ [k]) lo hi limit := by
    have hm : midK k lo hi limit acc = (acc ++ [k]) := by unfold midK; rw [if_pos (⟨.inr h2, .inl h3, h5⟩)]
    rw [keysT_node, if_neg h0, if_pos (Or.inl h3), if_neg (by rw [h1]; simp), hm]
  rw [e]
  have hc0 : W.cell? ⟨b, 0, none⟩ = some (.string k) := (blk_cell hA.1 0).trans rfl
  have hc3 : W.cell? ⟨b, 7, none⟩ = some (.pointer (addr l)) := (blk_cell hA.1 7).trans rfl
  have hc4 : W.cell? ⟨b, 8, none⟩ = some (.pointer (addr r)) := (blk_cell hA.1 8).trans rfl
  have e0 : decide (limit ≤ (acc.length : Int)) = false := decide_eq_false h0
  have e1 : Op.bytesLess lo.toList k.toList = false := h1
  have e2 : (lo.toList == k.toList) = true := by rw [h2]; exact beq_self_eq_true _
  have e3 : hi.toList.isEmpty = true := by rw [h3]; rfl
  have e5 : decide ((acc.length : Int) < limit) = true := decide_eq_true h5
  have nd := Tree.nd_node hn
  have hsl := keysT_len l acc lo hi limit
  simp only [Tree.size] at hs
  have HX := Lib.hid (And.intro hA (And.intro hn (And.intro hd (And.intro nd (And.intro hs (And.intro hsl ho))))))
  have IL : Hid (KeysIH l lo hi limit) := Lib.hid (p := KeysIH l lo hi limit) @il
  have IR : Hid (KeysIH r lo hi limit) := Lib.hid (p := KeysIH r lo hi limit) @ir
  clear e hA hn hd hs h0 h1 h2 h3 h5 nd hsl ho il ir
  obtain ⟨i0, hi0, hz0, hz1, hz2⟩ := info_parts info9
  go_enter Try.func85, Try.ntmps85
  have hf1 : ∀ y ∈ ownList (.slice a acc.length c), y ∈ ownList (.slice a acc.length c) ∨ W.heap.size ≤ y := fun y hy => .inl hy
  have HY := Lib.hid (And.intro HX.out.2.2.2.2.2.2 (And.intro hf1 (And.intro (Mod.refl W (ownList (.slice a acc.length c))) (And.intro HX.out.1 HX.out.2.2.1))))
  clear hf1
  have hbd : acc.length ≤ 1000000000000 := by have := HX.out.2.2.2.2; omega
  go_wp2_with (first | (at_builtin; refine wpList_append_lies _ rfl _ _ 120 rfl 0 9 i0 (.string ByteArray.empty) 1 16 Try.underlying120 hi0 hz0 hz1 hz2 rfl (by decide) (.slice a acc.length c) acc.length (pw_strs acc) rfl (HY.out.1.alloc _) ⟨W.heap.size, 0, none⟩ 1 1 [.string k] rfl rfl ?c1 ?c2 (by decide) ?c3 ?c4 ?c5 _ rfl ?_) | fail)
  case c1 => exact cell_one_new _ _ _
  case c2 => intro u hu; rw [List.mem_singleton.1 hu]; rfl
  case c3 => simp only [maxLen]; omega
  case c4 => omega
  case c5 => exact Nat.zero_le _
  intro g2 c2 W2 ho2 hg2 hat2 _
  have hst : pw_strs acc ++ [Value.string k] = pw_strs (acc ++ [k]) := by simp [pw_strs]
  have hln : acc.length + 1 = (acc ++ [k]).length := by simp
  rw [hst] at ho2
  rw [hln] at ho2 ⊢
  have hM2 := omod_grown ((Mod.refl W (ownList (.slice a acc.length c))).alloc _) hg2 (oown_own _ _ _)
  have hf2 : ∀ y ∈ ownList (.slice (some ⟨g2, 0, none⟩) (acc ++ [k]).length c2), y ∈ ownList (.slice a acc.length c) ∨ W.heap.size ≤ y := fun y hy => oown_new (Nat.le_add_right _ 1) hat2 y hy
  have HZ := Lib.hid (And.intro ho2 (And.intro hM2 hf2))
  clear ho2 hg2 hat2 hM2 hf2 hst hln
  have hA2 : At W2.heap (.node b k v h l r) := at_mod HY.out.2.2.2.1 HZ.out.2.1 (fun y hy hm => HY.out.2.2.2.2 y hm hy)
  replace hc0 : W2.cell? ⟨b, 0, none⟩ = some (.string k) := (blk_cell hA2.1 0).trans rfl
  replace hc3 : W2.cell? ⟨b, 7, none⟩ = some (.pointer (addr l)) := (blk_cell hA2.1 7).trans rfl
  replace hc4 : W2.cell? ⟨b, 8, none⟩ = some (.pointer (addr r)) := (blk_cell hA2.1 8).trans rfl
  have HA2 := Lib.hid hA2
  clear hA2
  have hd2 : ∀ y ∈ ownList (.slice (some ⟨g2, 0, none⟩) (acc ++ [k]).length c2), y ∉ (Tree.node b k v h l r).blocks := fun y hy hm => by
    rcases HZ.out.2.2 y hy with hh | hh
    · exact HY.out.2.2.2.2 y hh hm
    · have := at_lt HY.out.2.2.2.1 y hm; omega
  have HD := Lib.hid hd2
  clear hd2
  have HT := Lib.hid (And.intro HZ.out.1 (And.intro (fun y hy => ochain_new HY.out.2.1 HY.out.2.2.1.size HZ.out.2.2 y hy) (HY.out.2.2.1.trans HZ.out.2.1 HY.out.2.1)))
  generalize hk2 : acc ++ [k] = acc2 at *
  have HK2 := Lib.hid hk2
  clear hk2
  go_wp2_with fail
  refine (IR.out HA2.out.2.2 (fun y hy hm => HD.out y hy (by simp [Tree.blocks, hm])) HT.out.1 ?hsz).mono ?_
  case hsz =>
    have q1 := HX.out.2.2.2.2
    have q2 : acc2.length = acc.length + 1 := by rw [← HK2.out]; simp
    omega
  rintro e W3 ⟨v3, rfl, ho3, hf3, hM3⟩
  obtain ⟨a3, c3, rfl⟩ := own_slice ho3
  have HE := Lib.hid (And.intro ho3 (And.intro hf3 hM3))
  clear ho3 hf3 hM3
  go_wp2
  go_ret
  have hk2 := HK2.out
  subst hk2
  exact ⟨_, rfl, HE.out.1, fun y hy => ochain_new HT.out.2.1 HT.out.2.2.size HE.out.2.1 y hy, HT.out.2.2.trans HE.out.2.2 HT.out.2.1⟩

set_option maxRecDepth 100000 in
set_option maxHeartbeats 1000000 in
theorem keys_eez {W : World} {a : Option Addr} {c : Nat} {acc : List ByteArray} {b : Nat} {k : ByteArray} {v : S105} {h : Int} {l r : Tree S105} (lo hi : ByteArray) (limit : Int) (ho : W.ownsRow 0 9 1 (.slice a acc.length c) acc.length (pw_strs acc)) (hA : At W.heap (.node b k v h l r)) (hn : (Tree.node b k v h l r).blocks.Nodup)
    (hd : ∀ y ∈ ownList (.slice a acc.length c), y ∉ (Tree.node b k v h l r).blocks) (hs : acc.length + (Tree.node b k v h l r).size ≤ 1000000000000) (h0 : ¬ (acc.length : Int) ≥ limit) (h1 : Tree.lt lo k = false) (h2 : lo.toList = k.toList) (h3 : hi.toList = []) (h5 : ¬ (acc.length : Int) < limit)
    (il : KeysIH l lo hi limit) (ir : KeysIH r lo hi limit) :
    Calls Try.prog 85 #[.pointer (some ⟨b, 0, none⟩), .slice a acc.length c, .string lo, .string hi, .int .i64 limit] W (KeysPost W (.slice a acc.length c) (keysT (.node b k v h l r) acc lo hi limit)) := by
  have e : keysT (.node b k v h l r) acc lo hi limit = keysT r acc lo hi limit := by
    have hm : midK k lo hi limit acc = acc := by unfold midK; rw [if_neg (fun hh => h5 hh.2.2)]
    rw [keysT_node, if_neg h0, if_pos (Or.inl h3), if_neg (by rw [h1]; simp), hm]
  rw [e]
  have hc0 : W.cell? ⟨b, 0, none⟩ = some (.string k) := (blk_cell hA.1 0).trans rfl
  have hc3 : W.cell? ⟨b, 7, none⟩ = some (.pointer (addr l)) := (blk_cell hA.1 7).trans rfl
  have hc4 : W.cell? ⟨b, 8, none⟩ = some (.pointer (addr r)) := (blk_cell hA.1 8).trans rfl
  have e0 : decide (limit ≤ (acc.length : Int)) = false := decide_eq_false h0
  have e1 : Op.bytesLess lo.toList k.toList = false := h1
  have e2 : (lo.toList == k.toList) = true := by rw [h2]; exact beq_self_eq_true _
  have e3 : hi.toList.isEmpty = true := by rw [h3]; rfl
  have e5 : decide ((acc.length : Int) < limit) = false := decide_eq_false h5
  have nd := Tree.nd_node hn
  have hsl := keysT_len l acc lo hi limit
  simp only [Tree.size] at hs
  have HX := Lib.hid (And.intro hA (And.intro hn (And.intro hd (And.intro nd (And.intro hs (And.intro hsl ho))))))
  have IL : Hid (KeysIH l lo hi limit) := Lib.hid (p := KeysIH l lo hi limit) @il
  have IR : Hid (KeysIH r lo hi limit) := Lib.hid (p := KeysIH r lo hi limit) @ir
  clear e hA hn hd hs h0 h1 h2 h3 h5 nd hsl ho il ir
  go_enter Try.func85, Try.ntmps85
  have hf1 : ∀ y ∈ ownList (.slice a acc.length c), y ∈ ownList (.slice a acc.length c) ∨ W.heap.size ≤ y := fun y hy => .inl hy
  have HY := Lib.hid (And.intro HX.out.2.2.2.2.2.2 (And.intro hf1 (And.intro (Mod.refl W (ownList (.slice a acc.length c))) (And.intro HX.out.1 HX.out.2.2.1))))
  clear hf1
  have hbd : acc.length ≤ 1000000000000 := by have := HX.out.2.2.2.2; omega
  have HA2 := Lib.hid HY.out.2.2.2.1
  have HD := Lib.hid HY.out.2.2.2.2
  have HT := Lib.hid (And.intro HY.out.1 (And.intro HY.out.2.1 HY.out.2.2.1))
  go_wp2_with fail
  refine (IR.out HA2.out.2.2 (fun y hy hm => HD.out y hy (by simp [Tree.blocks, hm])) HT.out.1 ?hsz).mono ?_
  case hsz =>
    have q1 := HX.out.2.2.2.2
    omega
  rintro e W3 ⟨v3, rfl, ho3, hf3, hM3⟩
  obtain ⟨a3, c3, rfl⟩ := own_slice ho3
  have HE := Lib.hid (And.intro ho3 (And.intro hf3 hM3))
  clear ho3 hf3 hM3
  go_wp2
  go_ret
  exact ⟨_, rfl, HE.out.1, fun y hy => ochain_new HT.out.2.1 HT.out.2.2.size HE.out.2.1 y hy, HT.out.2.2.trans HE.out.2.2 HT.out.2.1⟩

set_option maxRecDepth 100000 in
set_option maxHeartbeats 1000000 in
theorem keys_ely {W : World} {a : Option Addr} {c : Nat} {acc : List ByteArray} {b : Nat} {k : ByteArray} {v : S105} {h : Int} {l r : Tree S105} (lo hi : ByteArray) (limit : Int) (ho : W.ownsRow 0 9 1 (.slice a acc.length c) acc.length (pw_strs acc)) (hA : At W.heap (.node b k v h l r)) (hn : (Tree.node b k v h l r).blocks.Nodup)
    (hd : ∀ y ∈ ownList (.slice a acc.length c), y ∉ (Tree.node b k v h l r).blocks) (hs : acc.length + (Tree.node b k v h l r).size ≤ 1000000000000) (h0 : ¬ (acc.length : Int) ≥ limit) (h1 : Tree.lt lo k = false) (h2 : lo.toList = k.toList) (h3 : hi.toList ≠ []) (h4 : Tree.lt k hi = true) (h5 : (acc.length : Int) < limit)
    (il : KeysIH l lo hi limit) (ir : KeysIH r lo hi limit) :
    Calls Try.prog 85 #[.pointer (some ⟨b, 0, none⟩), .slice a acc.length c, .string lo, .string hi, .int .i64 limit] W (KeysPost W (.slice a acc.length c) (keysT (.node b k v h l r) acc lo hi limit)) := by
  have e : keysT (.node b k v h l r) acc lo hi limit = keysT r (acc ++ [k]) lo hi limit := by
    have hm : midK k lo hi limit acc = (acc ++ [k]) := by unfold midK; rw [if_pos (⟨.inr h2, .inr h4, h5⟩)]
    rw [keysT_node, if_neg h0, if_pos (Or.inr h4), if_neg (by rw [h1]; simp), hm]
  rw [e]
  have hc0 : W.cell? ⟨b, 0, none⟩ = some (.string k) := (blk_cell hA.1 0).trans rfl
  have hc3 : W.cell? ⟨b, 7, none⟩ = some (.pointer (addr l)) := (blk_cell hA.1 7).trans rfl
  have hc4 : W.cell? ⟨b, 8, none⟩ = some (.pointer (addr r)) := (blk_cell hA.1 8).trans rfl
  have e0 : decide (limit ≤ (acc.length : Int)) = false := decide_eq_false h0
  have e1 : Op.bytesLess lo.toList k.toList = false := h1
  have e2 : (lo.toList == k.toList) = true := by rw [h2]; exact beq_self_eq_true _
  have e3 : hi.toList.isEmpty = false := by cases hz : hi.toList with | nil => exact absurd hz h3 | cons _ _ => rfl
  have e4 : Op.bytesLess k.toList hi.toList = true := h4
  have e5 : decide ((acc.length : Int) < limit) = true := decide_eq_true h5
  have nd := Tree.nd_node hn
  have hsl := keysT_len l acc lo hi limit
  simp only [Tree.size] at hs
  have HX := Lib.hid (And.intro hA (And.intro hn (And.intro hd (And.intro nd (And.intro hs (And.intro hsl ho))))))
  have IL : Hid (KeysIH l lo hi limit) := Lib.hid (p := KeysIH l lo hi limit) @il
  have IR : Hid (KeysIH r lo hi limit) := Lib.hid (p := KeysIH r lo hi limit) @ir
  clear e hA hn hd hs h0 h1 h2 h3 h4 h5 nd hsl ho il ir
  obtain ⟨i0, hi0, hz0, hz1, hz2⟩ := info_parts info9
  go_enter Try.func85, Try.ntmps85
  have hf1 : ∀ y ∈ ownList (.slice a acc.length c), y ∈ ownList (.slice a acc.length c) ∨ W.heap.size ≤ y := fun y hy => .inl hy
  have HY := Lib.hid (And.intro HX.out.2.2.2.2.2.2 (And.intro hf1 (And.intro (Mod.refl W (ownList (.slice a acc.length c))) (And.intro HX.out.1 HX.out.2.2.1))))
  clear hf1
  have hbd : acc.length ≤ 1000000000000 := by have := HX.out.2.2.2.2; omega
  go_wp2_with (first | (at_builtin; refine wpList_append_lies _ rfl _ _ 120 rfl 0 9 i0 (.string ByteArray.empty) 1 16 Try.underlying120 hi0 hz0 hz1 hz2 rfl (by decide) (.slice a acc.length c) acc.length (pw_strs acc) rfl (HY.out.1.alloc _) ⟨W.heap.size, 0, none⟩ 1 1 [.string k] rfl rfl ?c1 ?c2 (by decide) ?c3 ?c4 ?c5 _ rfl ?_) | fail)
  case c1 => exact cell_one_new _ _ _
  case c2 => intro u hu; rw [List.mem_singleton.1 hu]; rfl
  case c3 => simp only [maxLen]; omega
  case c4 => omega
  case c5 => exact Nat.zero_le _
  intro g2 c2 W2 ho2 hg2 hat2 _
  have hst : pw_strs acc ++ [Value.string k] = pw_strs (acc ++ [k]) := by simp [pw_strs]
  have hln : acc.length + 1 = (acc ++ [k]).length := by simp
  rw [hst] at ho2
  rw [hln] at ho2 ⊢
  have hM2 := omod_grown ((Mod.refl W (ownList (.slice a acc.length c))).alloc _) hg2 (oown_own _ _ _)
  have hf2 : ∀ y ∈ ownList (.slice (some ⟨g2, 0, none⟩) (acc ++ [k]).length c2), y ∈ ownList (.slice a acc.length c) ∨ W.heap.size ≤ y := fun y hy => oown_new (Nat.le_add_right _ 1) hat2 y hy
  have HZ := Lib.hid (And.intro ho2 (And.intro hM2 hf2))
  clear ho2 hg2 hat2 hM2 hf2 hst hln
  have hA2 : At W2.heap (.node b k v h l r) := at_mod HY.out.2.2.2.1 HZ.out.2.1 (fun y hy hm => HY.out.2.2.2.2 y hm hy)
  replace hc0 : W2.cell? ⟨b, 0, none⟩ = some (.string k) := (blk_cell hA2.1 0).trans rfl
  replace hc3 : W2.cell? ⟨b, 7, none⟩ = some (.pointer (addr l)) := (blk_cell hA2.1 7).trans rfl
  replace hc4 : W2.cell? ⟨b, 8, none⟩ = some (.pointer (addr r)) := (blk_cell hA2.1 8).trans rfl
  have HA2 := Lib.hid hA2
  clear hA2
  have hd2 : ∀ y ∈ ownList (.slice (some ⟨g2, 0, none⟩) (acc ++ [k]).length c2), y ∉ (Tree.node b k v h l r).blocks := fun y hy hm => by
    rcases HZ.out.2.2 y hy with hh | hh
    · exact HY.out.2.2.2.2 y hh hm
    · have := at_lt HY.out.2.2.2.1 y hm; omega
  have HD := Lib.hid hd2
  clear hd2
  have HT := Lib.hid (And.intro HZ.out.1 (And.intro (fun y hy => ochain_new HY.out.2.1 HY.out.2.2.1.size HZ.out.2.2 y hy) (HY.out.2.2.1.trans HZ.out.2.1 HY.out.2.1)))
  generalize hk2 : acc ++ [k] = acc2 at *
  have HK2 := Lib.hid hk2
  clear hk2
  go_wp2_with fail
  refine (IR.out HA2.out.2.2 (fun y hy hm => HD.out y hy (by simp [Tree.blocks, hm])) HT.out.1 ?hsz).mono ?_
  case hsz =>
    have q1 := HX.out.2.2.2.2
    have q2 : acc2.length = acc.length + 1 := by rw [← HK2.out]; simp
    omega
  rintro e W3 ⟨v3, rfl, ho3, hf3, hM3⟩
  obtain ⟨a3, c3, rfl⟩ := own_slice ho3
  have HE := Lib.hid (And.intro ho3 (And.intro hf3 hM3))
  clear ho3 hf3 hM3
  go_wp2
  go_ret
  have hk2 := HK2.out
  subst hk2
  exact ⟨_, rfl, HE.out.1, fun y hy => ochain_new HT.out.2.1 HT.out.2.2.size HE.out.2.1 y hy, HT.out.2.2.trans HE.out.2.2 HT.out.2.1⟩

set_option maxRecDepth 100000 in
set_option maxHeartbeats 1000000 in
theorem keys_elz {W : World} {a : Option Addr} {c : Nat} {acc : List ByteArray} {b : Nat} {k : ByteArray} {v : S105} {h : Int} {l r : Tree S105} (lo hi : ByteArray) (limit : Int) (ho : W.ownsRow 0 9 1 (.slice a acc.length c) acc.length (pw_strs acc)) (hA : At W.heap (.node b k v h l r)) (hn : (Tree.node b k v h l r).blocks.Nodup)
    (hd : ∀ y ∈ ownList (.slice a acc.length c), y ∉ (Tree.node b k v h l r).blocks) (hs : acc.length + (Tree.node b k v h l r).size ≤ 1000000000000) (h0 : ¬ (acc.length : Int) ≥ limit) (h1 : Tree.lt lo k = false) (h2 : lo.toList = k.toList) (h3 : hi.toList ≠ []) (h4 : Tree.lt k hi = true) (h5 : ¬ (acc.length : Int) < limit)
    (il : KeysIH l lo hi limit) (ir : KeysIH r lo hi limit) :
    Calls Try.prog 85 #[.pointer (some ⟨b, 0, none⟩), .slice a acc.length c, .string lo, .string hi, .int .i64 limit] W (KeysPost W (.slice a acc.length c) (keysT (.node b k v h l r) acc lo hi limit)) := by
  have e : keysT (.node b k v h l r) acc lo hi limit = keysT r acc lo hi limit := by
    have hm : midK k lo hi limit acc = acc := by unfold midK; rw [if_neg (fun hh => h5 hh.2.2)]
    rw [keysT_node, if_neg h0, if_pos (Or.inr h4), if_neg (by rw [h1]; simp), hm]
  rw [e]
  have hc0 : W.cell? ⟨b, 0, none⟩ = some (.string k) := (blk_cell hA.1 0).trans rfl
  have hc3 : W.cell? ⟨b, 7, none⟩ = some (.pointer (addr l)) := (blk_cell hA.1 7).trans rfl
  have hc4 : W.cell? ⟨b, 8, none⟩ = some (.pointer (addr r)) := (blk_cell hA.1 8).trans rfl
  have e0 : decide (limit ≤ (acc.length : Int)) = false := decide_eq_false h0
  have e1 : Op.bytesLess lo.toList k.toList = false := h1
  have e2 : (lo.toList == k.toList) = true := by rw [h2]; exact beq_self_eq_true _
  have e3 : hi.toList.isEmpty = false := by cases hz : hi.toList with | nil => exact absurd hz h3 | cons _ _ => rfl
  have e4 : Op.bytesLess k.toList hi.toList = true := h4
  have e5 : decide ((acc.length : Int) < limit) = false := decide_eq_false h5
  have nd := Tree.nd_node hn
  have hsl := keysT_len l acc lo hi limit
  simp only [Tree.size] at hs
  have HX := Lib.hid (And.intro hA (And.intro hn (And.intro hd (And.intro nd (And.intro hs (And.intro hsl ho))))))
  have IL : Hid (KeysIH l lo hi limit) := Lib.hid (p := KeysIH l lo hi limit) @il
  have IR : Hid (KeysIH r lo hi limit) := Lib.hid (p := KeysIH r lo hi limit) @ir
  clear e hA hn hd hs h0 h1 h2 h3 h4 h5 nd hsl ho il ir
  go_enter Try.func85, Try.ntmps85
  have hf1 : ∀ y ∈ ownList (.slice a acc.length c), y ∈ ownList (.slice a acc.length c) ∨ W.heap.size ≤ y := fun y hy => .inl hy
  have HY := Lib.hid (And.intro HX.out.2.2.2.2.2.2 (And.intro hf1 (And.intro (Mod.refl W (ownList (.slice a acc.length c))) (And.intro HX.out.1 HX.out.2.2.1))))
  clear hf1
  have hbd : acc.length ≤ 1000000000000 := by have := HX.out.2.2.2.2; omega
  have HA2 := Lib.hid HY.out.2.2.2.1
  have HD := Lib.hid HY.out.2.2.2.2
  have HT := Lib.hid (And.intro HY.out.1 (And.intro HY.out.2.1 HY.out.2.2.1))
  go_wp2_with fail
  refine (IR.out HA2.out.2.2 (fun y hy hm => HD.out y hy (by simp [Tree.blocks, hm])) HT.out.1 ?hsz).mono ?_
  case hsz =>
    have q1 := HX.out.2.2.2.2
    omega
  rintro e W3 ⟨v3, rfl, ho3, hf3, hM3⟩
  obtain ⟨a3, c3, rfl⟩ := own_slice ho3
  have HE := Lib.hid (And.intro ho3 (And.intro hf3 hM3))
  clear ho3 hf3 hM3
  go_wp2
  go_ret
  exact ⟨_, rfl, HE.out.1, fun y hy => ochain_new HT.out.2.1 HT.out.2.2.size HE.out.2.1 y hy, HT.out.2.2.trans HE.out.2.2 HT.out.2.1⟩

set_option maxRecDepth 100000 in
set_option maxHeartbeats 1000000 in
theorem keys_en {W : World} {a : Option Addr} {c : Nat} {acc : List ByteArray} {b : Nat} {k : ByteArray} {v : S105} {h : Int} {l r : Tree S105} (lo hi : ByteArray) (limit : Int) (ho : W.ownsRow 0 9 1 (.slice a acc.length c) acc.length (pw_strs acc)) (hA : At W.heap (.node b k v h l r)) (hn : (Tree.node b k v h l r).blocks.Nodup)
    (hd : ∀ y ∈ ownList (.slice a acc.length c), y ∉ (Tree.node b k v h l r).blocks) (hs : acc.length + (Tree.node b k v h l r).size ≤ 1000000000000) (h0 : ¬ (acc.length : Int) ≥ limit) (h1 : Tree.lt lo k = false) (h2 : lo.toList = k.toList) (h3 : hi.toList ≠ []) (h4 : Tree.lt k hi = false) 
    (il : KeysIH l lo hi limit) (ir : KeysIH r lo hi limit) :
    Calls Try.prog 85 #[.pointer (some ⟨b, 0, none⟩), .slice a acc.length c, .string lo, .string hi, .int .i64 limit] W (KeysPost W (.slice a acc.length c) (keysT (.node b k v h l r) acc lo hi limit)) := by
  have e : keysT (.node b k v h l r) acc lo hi limit = acc := by
    have hm : midK k lo hi limit acc = acc := by unfold midK; rw [if_neg (fun hh => hh.2.1.elim h3 (fun z => by rw [h4] at z; cases z))]
    rw [keysT_node, if_neg h0, if_neg (fun hh => hh.elim h3 (fun z => by rw [h4] at z; cases z)), if_neg (by rw [h1]; simp), hm]
  rw [e]
  have hc0 : W.cell? ⟨b, 0, none⟩ = some (.string k) := (blk_cell hA.1 0).trans rfl
  have hc3 : W.cell? ⟨b, 7, none⟩ = some (.pointer (addr l)) := (blk_cell hA.1 7).trans rfl
  have hc4 : W.cell? ⟨b, 8, none⟩ = some (.pointer (addr r)) := (blk_cell hA.1 8).trans rfl
  have e0 : decide (limit ≤ (acc.length : Int)) = false := decide_eq_false h0
  have e1 : Op.bytesLess lo.toList k.toList = false := h1
  have e2 : (lo.toList == k.toList) = true := by rw [h2]; exact beq_self_eq_true _
  have e3 : hi.toList.isEmpty = false := by cases hz : hi.toList with | nil => exact absurd hz h3 | cons _ _ => rfl
  have e4 : Op.bytesLess k.toList hi.toList = false := h4
  have nd := Tree.nd_node hn
  have hsl := keysT_len l acc lo hi limit
  simp only [Tree.size] at hs
  have HX := Lib.hid (And.intro hA (And.intro hn (And.intro hd (And.intro nd (And.intro hs (And.intro hsl ho))))))
  have IL : Hid (KeysIH l lo hi limit) := Lib.hid (p := KeysIH l lo hi limit) @il
  have IR : Hid (KeysIH r lo hi limit) := Lib.hid (p := KeysIH r lo hi limit) @ir
  clear e hA hn hd hs h0 h1 h2 h3 h4  nd hsl ho il ir
  go_enter Try.func85, Try.ntmps85
  have hf1 : ∀ y ∈ ownList (.slice a acc.length c), y ∈ ownList (.slice a acc.length c) ∨ W.heap.size ≤ y := fun y hy => .inl hy
  have HY := Lib.hid (And.intro HX.out.2.2.2.2.2.2 (And.intro hf1 (And.intro (Mod.refl W (ownList (.slice a acc.length c))) (And.intro HX.out.1 HX.out.2.2.1))))
  clear hf1
  have hbd : acc.length ≤ 1000000000000 := by have := HX.out.2.2.2.2; omega
  have HA2 := Lib.hid HY.out.2.2.2.1
  have HD := Lib.hid HY.out.2.2.2.2
  have HT := Lib.hid (And.intro HY.out.1 (And.intro HY.out.2.1 HY.out.2.2.1))
  go_wp2
  go_ret
  exact ⟨_, rfl, HT.out.1, HT.out.2.1, HT.out.2.2⟩

set_option maxRecDepth 100000 in
set_option maxHeartbeats 1000000 in
theorem keys_fe {W : World} {a : Option Addr} {c : Nat} {acc : List ByteArray} {b : Nat} {k : ByteArray} {v : S105} {h : Int} {l r : Tree S105} (lo hi : ByteArray) (limit : Int) (ho : W.ownsRow 0 9 1 (.slice a acc.length c) acc.length (pw_strs acc)) (hA : At W.heap (.node b k v h l r)) (hn : (Tree.node b k v h l r).blocks.Nodup)
    (hd : ∀ y ∈ ownList (.slice a acc.length c), y ∉ (Tree.node b k v h l r).blocks) (hs : acc.length + (Tree.node b k v h l r).size ≤ 1000000000000) (h0 : ¬ (acc.length : Int) ≥ limit) (h1 : Tree.lt lo k = false) (h2 : lo.toList ≠ k.toList) (h3 : hi.toList = []) 
    (il : KeysIH l lo hi limit) (ir : KeysIH r lo hi limit) :
    Calls Try.prog 85 #[.pointer (some ⟨b, 0, none⟩), .slice a acc.length c, .string lo, .string hi, .int .i64 limit] W (KeysPost W (.slice a acc.length c) (keysT (.node b k v h l r) acc lo hi limit)) := by
  have e : keysT (.node b k v h l r) acc lo hi limit = keysT r acc lo hi limit := by
    have hm : midK k lo hi limit acc = acc := by unfold midK; rw [if_neg (fun hh => hh.1.elim (fun z => by rw [h1] at z; cases z) h2)]
    rw [keysT_node, if_neg h0, if_pos (Or.inl h3), if_neg (by rw [h1]; simp), hm]
  rw [e]
  have hc0 : W.cell? ⟨b, 0, none⟩ = some (.string k) := (blk_cell hA.1 0).trans rfl
  have hc3 : W.cell? ⟨b, 7, none⟩ = some (.pointer (addr l)) := (blk_cell hA.1 7).trans rfl
  have hc4 : W.cell? ⟨b, 8, none⟩ = some (.pointer (addr r)) := (blk_cell hA.1 8).trans rfl
  have e0 : decide (limit ≤ (acc.length : Int)) = false := decide_eq_false h0
  have e1 : Op.bytesLess lo.toList k.toList = false := h1
  have e2 : (lo.toList == k.toList) = false := beq_eq_false_iff_ne.2 h2
  have e3 : hi.toList.isEmpty = true := by rw [h3]; rfl
  have nd := Tree.nd_node hn
  have hsl := keysT_len l acc lo hi limit
  simp only [Tree.size] at hs
  have HX := Lib.hid (And.intro hA (And.intro hn (And.intro hd (And.intro nd (And.intro hs (And.intro hsl ho))))))
  have IL : Hid (KeysIH l lo hi limit) := Lib.hid (p := KeysIH l lo hi limit) @il
  have IR : Hid (KeysIH r lo hi limit) := Lib.hid (p := KeysIH r lo hi limit) @ir
  clear e hA hn hd hs h0 h1 h2 h3  nd hsl ho il ir
  go_enter Try.func85, Try.ntmps85
  have hf1 : ∀ y ∈ ownList (.slice a acc.length c), y ∈ ownList (.slice a acc.length c) ∨ W.heap.size ≤ y := fun y hy => .inl hy
  have HY := Lib.hid (And.intro HX.out.2.2.2.2.2.2 (And.intro hf1 (And.intro (Mod.refl W (ownList (.slice a acc.length c))) (And.intro HX.out.1 HX.out.2.2.1))))
  clear hf1
  have hbd : acc.length ≤ 1000000000000 := by have := HX.out.2.2.2.2; omega
  have HA2 := Lib.hid HY.out.2.2.2.1
  have HD := Lib.hid HY.out.2.2.2.2
  have HT := Lib.hid (And.intro HY.out.1 (And.intro HY.out.2.1 HY.out.2.2.1))
  go_wp2_with fail
  refine (IR.out HA2.out.2.2 (fun y hy hm => HD.out y hy (by simp [Tree.blocks, hm])) HT.out.1 ?hsz).mono ?_
  case hsz =>
    have q1 := HX.out.2.2.2.2
    omega
  rintro e W3 ⟨v3, rfl, ho3, hf3, hM3⟩
  obtain ⟨a3, c3, rfl⟩ := own_slice ho3
  have HE := Lib.hid (And.intro ho3 (And.intro hf3 hM3))
  clear ho3 hf3 hM3
  go_wp2
  go_ret
  exact ⟨_, rfl, HE.out.1, fun y hy => ochain_new HT.out.2.1 HT.out.2.2.size HE.out.2.1 y hy, HT.out.2.2.trans HE.out.2.2 HT.out.2.1⟩

set_option maxRecDepth 100000 in
set_option maxHeartbeats 1000000 in
theorem keys_fl {W : World} {a : Option Addr} {c : Nat} {acc : List ByteArray} {b : Nat} {k : ByteArray} {v : S105} {h : Int} {l r : Tree S105} (lo hi : ByteArray) (limit : Int) (ho : W.ownsRow 0 9 1 (.slice a acc.length c) acc.length (pw_strs acc)) (hA : At W.heap (.node b k v h l r)) (hn : (Tree.node b k v h l r).blocks.Nodup)
    (hd : ∀ y ∈ ownList (.slice a acc.length c), y ∉ (Tree.node b k v h l r).blocks) (hs : acc.length + (Tree.node b k v h l r).size ≤ 1000000000000) (h0 : ¬ (acc.length : Int) ≥ limit) (h1 : Tree.lt lo k = false) (h2 : lo.toList ≠ k.toList) (h3 : hi.toList ≠ []) (h4 : Tree.lt k hi = true) 
    (il : KeysIH l lo hi limit) (ir : KeysIH r lo hi limit) :
    Calls Try.prog 85 #[.pointer (some ⟨b, 0, none⟩), .slice a acc.length c, .string lo, .string hi, .int .i64 limit] W (KeysPost W (.slice a acc.length c) (keysT (.node b k v h l r) acc lo hi limit)) := by
  have e : keysT (.node b k v h l r) acc lo hi limit = keysT r acc lo hi limit := by
    have hm : midK k lo hi limit acc = acc := by unfold midK; rw [if_neg (fun hh => hh.1.elim (fun z => by rw [h1] at z; cases z) h2)]
    rw [keysT_node, if_neg h0, if_pos (Or.inr h4), if_neg (by rw [h1]; simp), hm]
  rw [e]
  have hc0 : W.cell? ⟨b, 0, none⟩ = some (.string k) := (blk_cell hA.1 0).trans rfl
  have hc3 : W.cell? ⟨b, 7, none⟩ = some (.pointer (addr l)) := (blk_cell hA.1 7).trans rfl
  have hc4 : W.cell? ⟨b, 8, none⟩ = some (.pointer (addr r)) := (blk_cell hA.1 8).trans rfl
  have e0 : decide (limit ≤ (acc.length : Int)) = false := decide_eq_false h0
  have e1 : Op.bytesLess lo.toList k.toList = false := h1
  have e2 : (lo.toList == k.toList) = false := beq_eq_false_iff_ne.2 h2
  have e3 : hi.toList.isEmpty = false := by cases hz : hi.toList with | nil => exact absurd hz h3 | cons _ _ => rfl
  have e4 : Op.bytesLess k.toList hi.toList = true := h4
  have nd := Tree.nd_node hn
  have hsl := keysT_len l acc lo hi limit
  simp only [Tree.size] at hs
  have HX := Lib.hid (And.intro hA (And.intro hn (And.intro hd (And.intro nd (And.intro hs (And.intro hsl ho))))))
  have IL : Hid (KeysIH l lo hi limit) := Lib.hid (p := KeysIH l lo hi limit) @il
  have IR : Hid (KeysIH r lo hi limit) := Lib.hid (p := KeysIH r lo hi limit) @ir
  clear e hA hn hd hs h0 h1 h2 h3 h4  nd hsl ho il ir
  go_enter Try.func85, Try.ntmps85
  have hf1 : ∀ y ∈ ownList (.slice a acc.length c), y ∈ ownList (.slice a acc.length c) ∨ W.heap.size ≤ y := fun y hy => .inl hy
  have HY := Lib.hid (And.intro HX.out.2.2.2.2.2.2 (And.intro hf1 (And.intro (Mod.refl W (ownList (.slice a acc.length c))) (And.intro HX.out.1 HX.out.2.2.1))))
  clear hf1
  have hbd : acc.length ≤ 1000000000000 := by have := HX.out.2.2.2.2; omega
  have HA2 := Lib.hid HY.out.2.2.2.1
  have HD := Lib.hid HY.out.2.2.2.2
  have HT := Lib.hid (And.intro HY.out.1 (And.intro HY.out.2.1 HY.out.2.2.1))
  go_wp2_with fail
  refine (IR.out HA2.out.2.2 (fun y hy hm => HD.out y hy (by simp [Tree.blocks, hm])) HT.out.1 ?hsz).mono ?_
  case hsz =>
    have q1 := HX.out.2.2.2.2
    omega
  rintro e W3 ⟨v3, rfl, ho3, hf3, hM3⟩
  obtain ⟨a3, c3, rfl⟩ := own_slice ho3
  have HE := Lib.hid (And.intro ho3 (And.intro hf3 hM3))
  clear ho3 hf3 hM3
  go_wp2
  go_ret
  exact ⟨_, rfl, HE.out.1, fun y hy => ochain_new HT.out.2.1 HT.out.2.2.size HE.out.2.1 y hy, HT.out.2.2.trans HE.out.2.2 HT.out.2.1⟩

set_option maxRecDepth 100000 in
set_option maxHeartbeats 1000000 in
theorem keys_fn {W : World} {a : Option Addr} {c : Nat} {acc : List ByteArray} {b : Nat} {k : ByteArray} {v : S105} {h : Int} {l r : Tree S105} (lo hi : ByteArray) (limit : Int) (ho : W.ownsRow 0 9 1 (.slice a acc.length c) acc.length (pw_strs acc)) (hA : At W.heap (.node b k v h l r)) (hn : (Tree.node b k v h l r).blocks.Nodup)
    (hd : ∀ y ∈ ownList (.slice a acc.length c), y ∉ (Tree.node b k v h l r).blocks) (hs : acc.length + (Tree.node b k v h l r).size ≤ 1000000000000) (h0 : ¬ (acc.length : Int) ≥ limit) (h1 : Tree.lt lo k = false) (h2 : lo.toList ≠ k.toList) (h3 : hi.toList ≠ []) (h4 : Tree.lt k hi = false) 
    (il : KeysIH l lo hi limit) (ir : KeysIH r lo hi limit) :
    Calls Try.prog 85 #[.pointer (some ⟨b, 0, none⟩), .slice a acc.length c, .string lo, .string hi, .int .i64 limit] W (KeysPost W (.slice a acc.length c) (keysT (.node b k v h l r) acc lo hi limit)) := by
  have e : keysT (.node b k v h l r) acc lo hi limit = acc := by
    have hm : midK k lo hi limit acc = acc := by unfold midK; rw [if_neg (fun hh => hh.1.elim (fun z => by rw [h1] at z; cases z) h2)]
    rw [keysT_node, if_neg h0, if_neg (fun hh => hh.elim h3 (fun z => by rw [h4] at z; cases z)), if_neg (by rw [h1]; simp), hm]
  rw [e]
  have hc0 : W.cell? ⟨b, 0, none⟩ = some (.string k) := (blk_cell hA.1 0).trans rfl
  have hc3 : W.cell? ⟨b, 7, none⟩ = some (.pointer (addr l)) := (blk_cell hA.1 7).trans rfl
  have hc4 : W.cell? ⟨b, 8, none⟩ = some (.pointer (addr r)) := (blk_cell hA.1 8).trans rfl
  have e0 : decide (limit ≤ (acc.length : Int)) = false := decide_eq_false h0
  have e1 : Op.bytesLess lo.toList k.toList = false := h1
  have e2 : (lo.toList == k.toList) = false := beq_eq_false_iff_ne.2 h2
  have e3 : hi.toList.isEmpty = false := by cases hz : hi.toList with | nil => exact absurd hz h3 | cons _ _ => rfl
  have e4 : Op.bytesLess k.toList hi.toList = false := h4
  have nd := Tree.nd_node hn
  have hsl := keysT_len l acc lo hi limit
  simp only [Tree.size] at hs
  have HX := Lib.hid (And.intro hA (And.intro hn (And.intro hd (And.intro nd (And.intro hs (And.intro hsl ho))))))
  have IL : Hid (KeysIH l lo hi limit) := Lib.hid (p := KeysIH l lo hi limit) @il
  have IR : Hid (KeysIH r lo hi limit) := Lib.hid (p := KeysIH r lo hi limit) @ir
  clear e hA hn hd hs h0 h1 h2 h3 h4  nd hsl ho il ir
  go_enter Try.func85, Try.ntmps85
  have hf1 : ∀ y ∈ ownList (.slice a acc.length c), y ∈ ownList (.slice a acc.length c) ∨ W.heap.size ≤ y := fun y hy => .inl hy
  have HY := Lib.hid (And.intro HX.out.2.2.2.2.2.2 (And.intro hf1 (And.intro (Mod.refl W (ownList (.slice a acc.length c))) (And.intro HX.out.1 HX.out.2.2.1))))
  clear hf1
  have hbd : acc.length ≤ 1000000000000 := by have := HX.out.2.2.2.2; omega
  have HA2 := Lib.hid HY.out.2.2.2.1
  have HD := Lib.hid HY.out.2.2.2.2
  have HT := Lib.hid (And.intro HY.out.1 (And.intro HY.out.2.1 HY.out.2.2.1))
  go_wp2
  go_ret
  exact ⟨_, rfl, HT.out.1, HT.out.2.1, HT.out.2.2⟩

theorem keysIH (t : Tree S105) : ∀ (lo hi : ByteArray) (limit : Int), t.blocks.Nodup → KeysIH t lo hi limit := by
  induction t with
  | nil =>
    intro lo hi limit _ W a c acc hA hd ho hs
    exact keys_nil lo hi limit ho
  | node b k v h l r il ir =>
    intro lo hi limit hn W a c acc hA hd ho hs
    have nd := Tree.nd_node hn
    have IL : KeysIH l lo hi limit := fun {_ _ _ _} x1 x2 x3 x4 => il lo hi limit nd.2.2.1 x1 x2 x3 x4
    have IR : KeysIH r lo hi limit := fun {_ _ _ _} x1 x2 x3 x4 => ir lo hi limit nd.2.2.2.1 x1 x2 x3 x4
    by_cases h0 : (acc.length : Int) ≥ limit
    · exact keys_full lo hi limit ho hA h0
    cases h1 : Tree.lt lo k with
    | true =>
      by_cases h3 : hi.toList = []
      · by_cases h5 : ((keysT l acc lo hi limit).length : Int) < limit
        · exact keys_tey lo hi limit ho hA hn hd hs h0 h1 h3 h5 @IL @IR
        · exact keys_tez lo hi limit ho hA hn hd hs h0 h1 h3 h5 @IL @IR
      cases h4 : Tree.lt k hi with
      | true =>
        by_cases h5 : ((keysT l acc lo hi limit).length : Int) < limit
        · exact keys_tly lo hi limit ho hA hn hd hs h0 h1 h3 h4 h5 @IL @IR
        · exact keys_tlz lo hi limit ho hA hn hd hs h0 h1 h3 h4 h5 @IL @IR
      | false => exact keys_tn lo hi limit ho hA hn hd hs h0 h1 h3 h4 @IL @IR
    | false =>
      by_cases h2 : lo.toList = k.toList
      · by_cases h3 : hi.toList = []
        · by_cases h5 : (acc.length : Int) < limit
          · exact keys_eey lo hi limit ho hA hn hd hs h0 h1 h2 h3 h5 @IL @IR
          · exact keys_eez lo hi limit ho hA hn hd hs h0 h1 h2 h3 h5 @IL @IR
        cases h4 : Tree.lt k hi with
        | true =>
          by_cases h5 : (acc.length : Int) < limit
          · exact keys_ely lo hi limit ho hA hn hd hs h0 h1 h2 h3 h4 h5 @IL @IR
          · exact keys_elz lo hi limit ho hA hn hd hs h0 h1 h2 h3 h4 h5 @IL @IR
        | false => exact keys_en lo hi limit ho hA hn hd hs h0 h1 h2 h3 h4 @IL @IR
      · by_cases h3 : hi.toList = []
        · exact keys_fe lo hi limit ho hA hn hd hs h0 h1 h2 h3 @IL @IR
        cases h4 : Tree.lt k hi with
        | true => exact keys_fl lo hi limit ho hA hn hd hs h0 h1 h2 h3 h4 @IL @IR
        | false => exact keys_fn lo hi limit ho hA hn hd hs h0 h1 h2 h3 h4 @IL @IR
theorem keys_calls {W : World} {t : Tree S105} {a : Option Addr} {c : Nat} {acc : List ByteArray} (lo hi : ByteArray) (limit : Int) (hA : At W.heap t) (hn : t.blocks.Nodup) (hd : ∀ y ∈ ownList (.slice a acc.length c), y ∉ t.blocks) (ho : W.ownsRow 0 9 1 (.slice a acc.length c) acc.length (pw_strs acc)) (hs : acc.length + t.size ≤ 1000000000000) :
    Calls Try.prog 85 #[.pointer (addr t), .slice a acc.length c, .string lo, .string hi, .int .i64 limit] W (KeysPost W (.slice a acc.length c) (keysT t acc lo hi limit)) := keysIH t lo hi limit hn hA hd ho hs
/-- What a key has. -/
def getT (t : Tree S105) (key : ByteArray) : Option S105 := match t with
  | .nil => none
  | .node _ k v _ l r => if Tree.lt key k = true then getT l key else if key.toList = k.toList then some v else getT r key
theorem getT_node (b : Nat) (k : ByteArray) (v : S105) (h : Int) (l r : Tree S105) (key : ByteArray) : getT (.node b k v h l r) key = if Tree.lt key k = true then getT l key else if key.toList = k.toList then some v else getT r key := rfl
/-- The height that stands in a node, at a pointer. -/
def hcell (w : World) : Value → Nat
  | .pointer (some ad) => (match w.cell? ⟨ad.block, 6, none⟩ with | some (.int _ h) => h.toNat | _ => 0)
  | _ => 0
theorem hcell_addr {w : World} {t : Tree S105} (h : At w.heap t) : hcell w (.pointer (addr t)) = t.height.toNat := by
  cases t with
  | nil => rfl
  | node b k v hh l r =>
    have hc2 : w.cell? ⟨b, 6, none⟩ = some (.int .i64 hh) := (blk_cell h.1 6).trans rfl
    simp only [addr, hcell, hc2, Tree.height_node]
theorem hcell_left {w : World} {b : Nat} {k : ByteArray} {v : S105} {h : Int} {l r : Tree S105} (hA : At w.heap (.node b k v h l r)) (g : (Tree.node b k v h l r).Good) : hcell w (.pointer (addr l)) < hcell w (.pointer (some ⟨b, 0, none⟩)) := by
  have e1 := hcell_addr hA
  have e2 := hcell_addr hA.2.1
  have := Tree.height_good g.2.1
  have := Tree.height_good g.2.2
  have hh : h = 1 + max l.height r.height := g.1
  rw [e2]
  show _ < hcell w (.pointer (addr (.node b k v h l r)))
  rw [e1, Tree.height_node]
  omega
theorem hcell_right {w : World} {b : Nat} {k : ByteArray} {v : S105} {h : Int} {l r : Tree S105} (hA : At w.heap (.node b k v h l r)) (g : (Tree.node b k v h l r).Good) : hcell w (.pointer (addr r)) < hcell w (.pointer (some ⟨b, 0, none⟩)) := by
  have e1 := hcell_addr hA
  have e2 := hcell_addr hA.2.2
  have := Tree.height_good g.2.1
  have := Tree.height_good g.2.2
  have hh : h = 1 + max l.height r.height := g.1
  rw [e2]
  show _ < hcell w (.pointer (addr (.node b k v h l r)))
  rw [e1, Tree.height_node]
  omega
def getEnd : Option S105 → Ending
  | none => .returned (.tuple #[.agg #[.int .u32 0, .int .u32 0, .string ⟨#[]⟩, .string ⟨#[]⟩, .bool false], .bool false])
  | some v => .returned (.tuple #[.agg #[.int .u32 v.f0.f0, .int .u32 v.f0.f1, .string v.f1.f0, .string v.f1.f1, .bool v.f1.f2], .bool true])
/-- an owner in a block of the call's own -/
def OB (W : World) (g : Nat) (v : S105) : Prop := W.heap[g]? = some (.cells #[.int .u32 v.f0.f0, .int .u32 v.f0.f1, .string v.f1.f0, .string v.f1.f1, .bool v.f1.f2] 105 (0, 0))
theorem OB.all {W : World} {g : Nat} {v : S105} (h : OB W g v) : W.cell? ⟨g, 0, none⟩ = some (.int .u32 v.f0.f0) ∧ W.cell? ⟨g, 1, none⟩ = some (.int .u32 v.f0.f1) ∧ W.cell? ⟨g, 2, none⟩ = some (.string v.f1.f0) ∧ W.cell? ⟨g, 3, none⟩ = some (.string v.f1.f1) ∧ W.cell? ⟨g, 4, none⟩ = some (.bool v.f1.f2) :=
  ⟨(blk_cell h 0).trans rfl, (blk_cell h 1).trans rfl, (blk_cell h 2).trans rfl, (blk_cell h 3).trans rfl, (blk_cell h 4).trans rfl⟩
theorem OB.put {W : World} {g : Nat} {u : S105} (h : OB W g u) (v : S105) : OB (put5 W g 0 v) g v := by
  unfold OB at h ⊢
  unfold put5
  refine blk_put (cs := #[.int .u32 v.f0.f0, .int .u32 v.f0.f1, .string v.f1.f0, .string v.f1.f1, .bool u.f1.f2]) ?_ 4 _ rfl
  refine blk_put (cs := #[.int .u32 v.f0.f0, .int .u32 v.f0.f1, .string v.f1.f0, .string u.f1.f1, .bool u.f1.f2]) ?_ 3 _ rfl
  refine blk_put (cs := #[.int .u32 v.f0.f0, .int .u32 v.f0.f1, .string u.f1.f0, .string u.f1.f1, .bool u.f1.f2]) ?_ 2 _ rfl
  refine blk_put (cs := #[.int .u32 v.f0.f0, .int .u32 u.f0.f1, .string u.f1.f0, .string u.f1.f1, .bool u.f1.f2]) ?_ 1 _ rfl
  refine blk_put (cs := #[.int .u32 u.f0.f0, .int .u32 u.f0.f1, .string u.f1.f0, .string u.f1.f1, .bool u.f1.f2]) ?_ 0 _ rfl
  exact h
theorem OB.mod {W W' : World} {g : Nat} {v : S105} {fp : List Nat} (h : OB W g v) (m : Mod W W' fp) (hn : g ∉ fp) : OB W' g v := m.at_ h hn
set_option maxRecDepth 100000 in
set_option maxHeartbeats 4000000 in
theorem getT_calls {W : World} {g : Nat} {t : Tree S105} {n : Int} (key : ByteArray) (hg : MapAt W.heap g (addr t) n) (hA : At W.heap t) (gd : t.Good) :
    Calls Try.prog 61 #[.pointer (some ⟨g, 0, none⟩), .string key] W fun e W' => e = getEnd (getT t key) ∧ Mod W W' [] := by
  have m1 := (Mod.refl W []).alloc (.cells #[.int .u32 0, .int .u32 0, .string ⟨#[]⟩, .string ⟨#[]⟩, .bool false] 105)
  have b4 : OB (W.alloc (.cells #[.int .u32 0, .int .u32 0, .string ⟨#[]⟩, .string ⟨#[]⟩, .bool false] 105)) W.heap.size z105 := blk_new W _
  have hs : (W.alloc (.cells #[.int .u32 0, .int .u32 0, .string ⟨#[]⟩, .string ⟨#[]⟩, .bool false] 105)).heap.size = W.heap.size + 1 := by simp
  have hg1 : MapAt (W.alloc (.cells #[.int .u32 0, .int .u32 0, .string ⟨#[]⟩, .string ⟨#[]⟩, .bool false] 105)).heap g (addr t) n := m1.at_ hg (by simp)
  have hA1 := at_mod hA m1 (fun _ _ => by simp)
  have hgq : g < W.heap.size := hg.lt
  have HSz : Hid (∀ V v, Mod W V [] → Mod W (put5 V W.heap.size 0 v) []) := Lib.hid fun V v m => m.put5 (.inr (Nat.le_refl _)) 0 v
  clear hg hA
  go_enter Try.func61, Try.ntmps61
  go_wp2
  generalize W.alloc _ = W1 at *
  have hg2 : MapAt (W1.alloc (.cells #[.int .u32 0, .int .u32 0, .string ⟨#[]⟩, .string ⟨#[]⟩, .bool false] 105)).heap g (addr t) n := ((Mod.refl W1 []).alloc (.cells #[.int .u32 0, .int .u32 0, .string ⟨#[]⟩, .string ⟨#[]⟩, .bool false] 105)).at_ hg1 (by simp)
  have hc : (W1.alloc (.cells #[.int .u32 0, .int .u32 0, .string ⟨#[]⟩, .string ⟨#[]⟩, .bool false] 105)).cell? ⟨g, 0, none⟩ = some (.pointer (addr t)) := (blk_cell hg2 0).trans rfl
  have HA : Hid (At (W1.alloc (.cells #[.int .u32 0, .int .u32 0, .string ⟨#[]⟩, .string ⟨#[]⟩, .bool false] 105)).heap t ∧ t.Good ∧ OB (W1.alloc (.cells #[.int .u32 0, .int .u32 0, .string ⟨#[]⟩, .string ⟨#[]⟩, .bool false] 105)) W.heap.size z105 ∧ (W1.alloc (.cells #[.int .u32 0, .int .u32 0, .string ⟨#[]⟩, .string ⟨#[]⟩, .bool false] 105)).heap[W.heap.size + 1]? = some (.cells #[.int .u32 0, .int .u32 0, .string ⟨#[]⟩, .string ⟨#[]⟩, .bool false] 105) ∧ Mod W (W1.alloc (.cells #[.int .u32 0, .int .u32 0, .string ⟨#[]⟩, .string ⟨#[]⟩, .bool false] 105)) []) :=
    Lib.hid ⟨at_mod hA1 ((Mod.refl W1 []).alloc _) (fun _ _ => by simp), gd, b4.mod ((Mod.refl W1 []).alloc _) (by simp), by rw [← hs]; exact blk_new W1 _, m1.alloc _⟩
  clear hA1 gd b4 hg1 m1 hg2
  generalize W.heap.size = q at *
  obtain ⟨V, hV⟩ : ∃ V, W1.alloc (.cells #[.int .u32 0, .int .u32 0, .string ⟨#[]⟩, .string ⟨#[]⟩, .bool false] 105) = V := ⟨_, rfl⟩
  rw [hV] at hc HA
  have HM := Lib.hid HA.out.2.2.2.2
  clear hgq
  obtain ⟨q0, q1, q2, q3, q4⟩ := HA.out.2.2.1.all
  have r0 : V.cell? ⟨q + 1, 0, none⟩ = some (.int .u32 0) := (blk_cell HA.out.2.2.2.1 0).trans rfl
  have r1 : V.cell? ⟨q + 1, 1, none⟩ = some (.int .u32 0) := (blk_cell HA.out.2.2.2.1 1).trans rfl
  have r2 : V.cell? ⟨q + 1, 2, none⟩ = some (.string ⟨#[]⟩) := (blk_cell HA.out.2.2.2.1 2).trans rfl
  have r3 : V.cell? ⟨q + 1, 3, none⟩ = some (.string ⟨#[]⟩) := (blk_cell HA.out.2.2.2.1 3).trans rfl
  have r4 : V.cell? ⟨q + 1, 4, none⟩ = some (.bool false) := (blk_cell HA.out.2.2.2.1 4).trans rfl
  have hf := blk_frozen HA.out.2.2.1
  simp only [z105, z32, z63] at q0 q1 q2 q3 q4
  refine wp_scope_jumps 0 (fun a' w' => w' = V ∧ ∃ (s : Tree S105) (u8 u9 u10 u11 u12 u13 u14 u15 u16 u17 u18 u19 u20 u21 u22 u23 u24 u25 u26 u27 u28 u29 u30 u31 u32 u33 u34 u35 u36 u37 u38 u39 u40 u41 u42 u43 u44 : Value), a' = { tmps := #[.pointer (some ⟨g, 0, none⟩), .string key, undef, undef, .pointer (some ⟨q, 0, none⟩), .bool false, .pointer (some ⟨q + 1, 0, none⟩), .pointer (addr s), u8, u9, u10, u11, u12, u13, u14, u15, u16, u17, u18, u19, u20, u21, u22, u23, u24, u25, u26, u27, u28, u29, u30, u31, u32, u33, u34, u35, u36, u37, u38, u39, u40, u41, u42, u43, u44], defers := [] } ∧ At V.heap s ∧ s.Good ∧ getT s key = getT t key) (fun a' w' => hcell w' (a'.tmps.getD 7 undef)) rfl ?_ ?_
  · have HA0 := Lib.hid HA.out.2.2.1
    cases t with
    | nil =>
      simp only [addr] at hc ⊢
      go_wp2
      go_step3
      go_wp2
      simp only [Exit.jump]
      refine bodyPost_ret (results_ct rfl _ _ q 105 _ (0, 0) _ rfl (HA0.out.put z105) Try.underlying105 rfl (by kernel_rfl)) rfl ?_
      exact ⟨rfl, HSz.out V z105 HM.out⟩
    | node b k v h l r =>
      simp only [addr] at hc ⊢
      have hc0 : V.cell? ⟨b, 0, none⟩ = some (.string k) := (blk_cell HA.out.1.1 0).trans rfl
      have hv1 : V.cell? ⟨b, 1, none⟩ = some (.int .u32 v.f0.f0) := (blk_cell HA.out.1.1 1).trans rfl
      have hv2 : V.cell? ⟨b, 2, none⟩ = some (.int .u32 v.f0.f1) := (blk_cell HA.out.1.1 2).trans rfl
      have hv3 : V.cell? ⟨b, 3, none⟩ = some (.string v.f1.f0) := (blk_cell HA.out.1.1 3).trans rfl
      have hv4 : V.cell? ⟨b, 4, none⟩ = some (.string v.f1.f1) := (blk_cell HA.out.1.1 4).trans rfl
      have hv5 : V.cell? ⟨b, 5, none⟩ = some (.bool v.f1.f2) := (blk_cell HA.out.1.1 5).trans rfl
      have hc3 : V.cell? ⟨b, 7, none⟩ = some (.pointer (addr l)) := (blk_cell HA.out.1.1 7).trans rfl
      have hc4 : V.cell? ⟨b, 8, none⟩ = some (.pointer (addr r)) := (blk_cell HA.out.1.1 8).trans rfl
      cases h1 : Tree.lt key k with
      | true =>
        have HB : Hid (getT l key = getT (.node b k v h l r) key) := Lib.hid (by rw [getT_node, if_pos h1])
        have e1 : Op.bytesLess key.toList k.toList = true := h1
        clear h1
        go_wp2
        go_step3
        go_wp2
        go_step3
        refine ⟨rfl, rfl, l, _, _, _, _, _, _, _, _, _, _, _, _, _, _, _, _, _, _, _, _, _, _, _, _, _, _, _, _, _, _, _, _, _, _, _, _, _, rfl, HA.out.1.2.1, HA.out.2.1.2.1, HB.out⟩
      | false =>
        have e1 : Op.bytesLess key.toList k.toList = false := h1
        by_cases h2 : key.toList = k.toList
        · have HB : Hid (getT (.node b k v h l r) key = some v) := Lib.hid (by rw [getT_node, if_neg (by rw [h1]; simp), if_pos h2])
          have e2 : (key.toList == k.toList) = true := by rw [h2]; exact beq_self_eq_true _
          clear h1 h2
          go_wp2
          go_step3
          go_wp2
          simp only [Exit.jump]
          refine bodyPost_ret (results_ct rfl _ _ q 105 _ (0, 0) _ rfl (HA0.out.put v) Try.underlying105 rfl (by kernel_rfl)) rfl ?_
          rw [HB.out]
          exact ⟨rfl, HSz.out V v HM.out⟩
        · have HB : Hid (getT r key = getT (.node b k v h l r) key) := Lib.hid (by rw [getT_node, if_neg (by rw [h1]; simp), if_neg h2])
          have e2 : (key.toList == k.toList) = false := beq_eq_false_iff_ne.2 h2
          clear h1 h2
          go_wp2
          go_step3
          go_wp2
          go_step3
          refine ⟨rfl, rfl, r, _, _, _, _, _, _, _, _, _, _, _, _, _, _, _, _, _, _, _, _, _, _, _, _, _, _, _, _, _, _, _, _, _, _, _, _, _, rfl, HA.out.1.2.2, HA.out.2.1.2.2, HB.out⟩
  · have HA0 := Lib.hid HA.out.2.2.1
    clear hc HA hV hs
    rintro a' w' ⟨hw, s, u8, u9, u10, u11, u12, u13, u14, u15, u16, u17, u18, u19, u20, u21, u22, u23, u24, u25, u26, u27, u28, u29, u30, u31, u32, u33, u34, u35, u36, u37, u38, u39, u40, u41, u42, u43, u44, rfl, hs, gs, hq⟩
    subst w'
    have HA := Lib.hid (And.intro hs gs)
    have HQ := Lib.hid hq
    clear hs gs hq
    cases s with
    | nil =>
      simp only [addr]
      go_wp2
      simp only [Exit.jump]
      refine bodyPost_ret (results_ct rfl _ _ q 105 _ (0, 0) _ rfl (HA0.out.put z105) Try.underlying105 rfl (by kernel_rfl)) rfl ?_
      rw [← HQ.out]
      exact ⟨rfl, HSz.out V z105 HM.out⟩
    | node b k v h l r =>
      simp only [addr]
      have hc0 : V.cell? ⟨b, 0, none⟩ = some (.string k) := (blk_cell HA.out.1.1 0).trans rfl
      have hv1 : V.cell? ⟨b, 1, none⟩ = some (.int .u32 v.f0.f0) := (blk_cell HA.out.1.1 1).trans rfl
      have hv2 : V.cell? ⟨b, 2, none⟩ = some (.int .u32 v.f0.f1) := (blk_cell HA.out.1.1 2).trans rfl
      have hv3 : V.cell? ⟨b, 3, none⟩ = some (.string v.f1.f0) := (blk_cell HA.out.1.1 3).trans rfl
      have hv4 : V.cell? ⟨b, 4, none⟩ = some (.string v.f1.f1) := (blk_cell HA.out.1.1 4).trans rfl
      have hv5 : V.cell? ⟨b, 5, none⟩ = some (.bool v.f1.f2) := (blk_cell HA.out.1.1 5).trans rfl
      have hc3 : V.cell? ⟨b, 7, none⟩ = some (.pointer (addr l)) := (blk_cell HA.out.1.1 7).trans rfl
      have hc4 : V.cell? ⟨b, 8, none⟩ = some (.pointer (addr r)) := (blk_cell HA.out.1.1 8).trans rfl
      cases h1 : Tree.lt key k with
      | true =>
        have HB : Hid (getT l key = getT t key) := Lib.hid (by rw [← HQ.out, getT_node, if_pos h1])
        have e1 : Op.bytesLess key.toList k.toList = true := h1
        clear h1
        go_wp2
        go_step3
        exact ⟨rfl, ⟨rfl, l, _, _, _, _, _, _, _, _, _, _, _, _, _, _, _, _, _, _, _, _, _, _, _, _, _, _, _, _, _, _, _, _, _, _, _, _, _, rfl, HA.out.1.2.1, HA.out.2.2.1, HB.out⟩, hcell_left HA.out.1 HA.out.2⟩
      | false =>
        have e1 : Op.bytesLess key.toList k.toList = false := h1
        by_cases h2 : key.toList = k.toList
        · have HB : Hid (getT t key = some v) := Lib.hid (by rw [← HQ.out, getT_node, if_neg (by rw [h1]; simp), if_pos h2])
          have e2 : (key.toList == k.toList) = true := by rw [h2]; exact beq_self_eq_true _
          clear h1 h2
          go_wp2
          simp only [Exit.jump]
          refine bodyPost_ret (results_ct rfl _ _ q 105 _ (0, 0) _ rfl (HA0.out.put v) Try.underlying105 rfl (by kernel_rfl)) rfl ?_
          rw [HB.out]
          exact ⟨rfl, HSz.out V v HM.out⟩
        · have HB : Hid (getT r key = getT t key) := Lib.hid (by rw [← HQ.out, getT_node, if_neg (by rw [h1]; simp), if_neg h2])
          have e2 : (key.toList == k.toList) = false := beq_eq_false_iff_ne.2 h2
          clear h1 h2
          go_wp2
          go_step3
          exact ⟨rfl, ⟨rfl, r, _, _, _, _, _, _, _, _, _, _, _, _, _, _, _, _, _, _, _, _, _, _, _, _, _, _, _, _, _, _, _, _, _, _, _, _, _, rfl, HA.out.1.2.2, HA.out.2.2.2, HB.out⟩, hcell_right HA.out.1 HA.out.2⟩
end Go.Proofs.Ytdelbidaclddgaa.Lat
