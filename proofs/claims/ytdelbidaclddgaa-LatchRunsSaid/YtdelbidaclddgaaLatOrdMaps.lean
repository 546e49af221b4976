/- The layer 'order' at owners of keys: the map's methods and 'awake' walked, and the plain lists that they answer by; a seat's own text, no law of its own. -/
import Derived.Test.YtdelbidaclddgaaLatOrdKeys
namespace Go.Proofs.Ytdelbidaclddgaa.Lat
open Go.RowKit Go.Proofs.Ytdelbidaclddgaa.MLatchRuns Go.Proofs.YtdelbidaclddgaaW.PrintLast Go.Proofs.YtdelbidaclddgaaW.PrintWords
set_option linter.unusedVariables false
set_option linter.unusedSimpArgs false
set_option maxHeartbeats 1000000
set_option maxRecDepth 100000
/-- A map of the layer: its own block, and its tree. -/
structure MapIs (W : World) (g : Nat) (t : Tree S105) : Prop where
  at_ : MapAt W.heap g (addr t) t.size
  tree : At W.heap t
  nd : t.blocks.Nodup
  out : g ∉ t.blocks
  good : t.Good
theorem MapIs.mod {W W' : World} {fp : List Nat} {g : Nat} {t : Tree S105} (h : MapIs W g t) (m : Mod W W' fp) (hg : g ∉ fp) (hd : ∀ x ∈ t.blocks, x ∉ fp) : MapIs W' g t :=
  ⟨m.at_ h.at_ hg, at_mod h.tree m hd, h.nd, h.out, h.good⟩
theorem MapIs.lt {W : World} {g : Nat} {t : Tree S105} (h : MapIs W g t) : ∀ x ∈ g :: t.blocks, x < W.heap.size := by
  intro x hx
  rcases List.mem_cons.1 hx with rfl | hx
  · exact h.at_.lt
  · exact at_lt h.tree x hx
theorem new_calls {W : World} : Calls Try.prog 58 #[] W fun e W' => e = .returned (.pointer (some ⟨W.heap.size, 0, none⟩)) ∧ MapIs W' W.heap.size .nil ∧ Mod W W' [] := by
  go_enter Try.func58, Try.ntmps58
  go_wp2
  go_ret
  refine ⟨rfl, ⟨blk_new _ _, trivial, by simp [Tree.blocks], by simp [Tree.blocks], trivial⟩, (Mod.refl _ _).alloc _⟩
theorem Get_calls {W : World} {g : Nat} {t : Tree S105} (key : ByteArray) (h : MapIs W g t) : Calls Try.prog 61 #[.pointer (some ⟨g, 0, none⟩), .string key] W fun e W' => e = getEnd (getT t key) ∧ Mod W W' [] := getT_calls key h.at_ h.tree h.good
def SetM (W : World) (g : Nat) (t : Tree S105) (key : ByteArray) (x : S105) (e : Ending) (W' : World) : Prop :=
  e = .returned (.tuple #[]) ∧ ∃ nb, W.heap.size ≤ nb ∧ MapIs W' g (t.set key x nb) ∧ Mod W W' (g :: t.blocks)
theorem SetM.up {W V : World} {g : Nat} {t : Tree S105} {key : ByteArray} {x : S105} {e : Ending} {W' : World} (h : SetM V g t key x e W') (m : Mod W V []) : SetM W g t key x e W' := by
  obtain ⟨h1, nb, h2, h3, h4⟩ := h
  have := m.size
  exact ⟨h1, nb, by omega, h3, (m.mono (fun _ hk => by cases hk)).trans h4 (fun k hk => .inl hk)⟩
set_option maxRecDepth 100000 in
set_option maxHeartbeats 2000000 in
theorem Set_calls {W : World} {g : Nat} {t : Tree S105} (key : ByteArray) (x : S105) (h : MapIs W g t) (hs : t.size ≤ 1000000000) : Calls Try.prog 66 #[.pointer (some ⟨g, 0, none⟩), .string key, .agg #[.int .u32 x.f0.f0, .int .u32 x.f0.f1, .string x.f1.f0, .string x.f1.f1, .bool x.f1.f2]] W (SetM W g t key x) := by
  have m1 := (Mod.refl W []).alloc (.cells #[.int .u32 x.f0.f0, .int .u32 x.f0.f1, .string x.f1.f0, .string x.f1.f1, .bool x.f1.f2] 105)
  have bx : OB (W.alloc (.cells #[.int .u32 x.f0.f0, .int .u32 x.f0.f1, .string x.f1.f0, .string x.f1.f1, .bool x.f1.f2] 105)) W.heap.size x := blk_new W _
  have h1 := h.mod m1 (by simp) (fun _ _ => by simp)
  have UP : Hid (∀ e W', SetM (W.alloc (.cells #[.int .u32 x.f0.f0, .int .u32 x.f0.f1, .string x.f1.f0, .string x.f1.f1, .bool x.f1.f2] 105)) g t key x e W' → SetM W g t key x e W') := Lib.hid fun e W' h => h.up m1
  clear m1 h
  go_enter Try.func66, Try.ntmps66
  go_upto_region 2 with fail
  generalize W.alloc _ = V at *
  generalize W.heap.size = q at *
  have hc0 : V.cell? ⟨g, 0, none⟩ = some (.pointer (addr t)) := (blk_cell h1.at_ 0).trans rfl
  have H := Lib.hid (And.intro h1 hs)
  have HX := Lib.hid bx
  obtain ⟨q0, q1, q2, q3, q4⟩ := bx.all
  clear h1 hs bx
  go_region_with (first
    | (go_at_call 84
       refine (set_calls (W := V.drew) t key x H.out.1.at_ (by omega) (by have := H.out.2; omega) H.out.1.tree H.out.1.nd H.out.1.out H.out.1.good (by have := H.out.2; omega)).mono ?_
       rintro e W1 hp
       obtain ⟨nb, hnb, rfl, hA, hM, hm⟩ := hp.up (Mod.refl V []).drew
       have hf0 := blk_frozen hM 0
       have hd0 : W1.cell? ⟨g, 0, none⟩ = some (.pointer (addr t)) := (blk_cell hM 0).trans rfl
       have K := Lib.hid (And.intro hnb (And.intro hA (And.intro hM hm)))
       clear hnb hA hM hm hc0 q0 q1 q2 q3 q4 hp))
  all_goals
    go_wp2
    go_end0
    refine UP.out _ _ ?_
    obtain ⟨⟨at_, tree, nd, out, good⟩, hs⟩ := H.out
    obtain ⟨hnb, hA, hM, hm⟩ := K.out
    have hlt : ∀ x ∈ t.blocks, x < V.heap.size := at_lt tree
    have hg : g < V.heap.size := at_.lt
    have out' : g ∉ (t.set key x nb).blocks := by
      intro hy
      rcases Tree.set_mem hy with e | e
      · omega
      · exact out e
    have M2 : Mod W1 (W1.setCell ⟨g, 0, none⟩ (.pointer (addr (t.set key x nb)))) [g] := (Mod.refl W1 _).setCell (.inl (by simp)) _
    refine ⟨rfl, nb, hnb, ⟨?_, at_mod hA M2 (fun y hy hz => out' (by simp only [List.mem_singleton] at hz; exact hz ▸ hy)), Tree.set_nodup nd (fun hy => by have := hlt _ hy; omega), out', Tree.set_good good⟩, hm.trans M2 (fun y hy => .inl (by simp only [List.mem_singleton] at hy; simp [hy]))⟩
    have e := blk_put hM 0 (.pointer (addr (t.set key x nb))) rfl
    rw [MapAt, Tree.set_size]
    refine e.trans ?_
    split <;> simp
def CutM (W : World) (g : Nat) (t : Tree S105) (key : ByteArray) (e : Ending) (W' : World) : Prop :=
  e = .returned (.bool (t.has key)) ∧ MapIs W' g (t.cut key) ∧ Mod W W' (g :: t.blocks)
theorem Cut_calls {W : World} {g : Nat} {t : Tree S105} (key : ByteArray) (h : MapIs W g t) (hs : t.size ≤ 1000000000) : Calls Try.prog 69 #[.pointer (some ⟨g, 0, none⟩), .string key] W (CutM W g t key) := by
  have hc0 : W.cell? ⟨g, 0, none⟩ = some (.pointer (addr t)) := (blk_cell h.at_ 0).trans rfl
  have hc1 : W.cell? ⟨g, 1, none⟩ = some (.int .i64 t.size) := (blk_cell h.at_ 1).trans rfl
  have H := Lib.hid (And.intro h hs)
  clear h hs
  go_enter Try.func69, Try.ntmps69
  go_wp2_with fail
  refine (cut_calls t key H.out.1.at_ (by omega) (by have := H.out.2; omega) H.out.1.tree H.out.1.nd H.out.1.out H.out.1.good (by have := H.out.2; omega)).mono ?_
  rintro e W1 ⟨rfl, hA, hM, hm⟩
  have hf0 := blk_frozen hM 0
  have hd0 : W1.cell? ⟨g, 0, none⟩ = some (.pointer (addr t)) := (blk_cell hM 0).trans rfl
  have hn : (if t.has key = true then (t.size : Int) - 1 else t.size) = (t.cut key).size := by
    have := Tree.cut_size (t := t) (key := key)
    split at this <;> (rename_i hk; simp only [hk, if_true, if_false]; try omega)
    · simp only [Bool.false_eq_true, if_false]; omega
  rw [hn] at hM
  have hx : (W1.setCell ⟨g, 0, none⟩ (.pointer (addr (t.cut key)))).cell? ⟨g, 1, none⟩ = some (.int .i64 (t.cut key).size) := (blk_cell (blk_put hM 0 (.pointer (addr (t.cut key))) rfl) 1).trans rfl
  have hd : decide ((t.cut key).size < t.size) = t.has key := by
    have := Tree.cut_size (t := t) (key := key)
    cases hk : t.has key with
    | true => rw [hk] at this; simp only [if_true] at this; exact decide_eq_true (by omega)
    | false => rw [hk] at this; simp only [Bool.false_eq_true, if_false] at this; exact decide_eq_false (by omega)
  have K := Lib.hid (And.intro hA (And.intro hM hm))
  clear hA hM hm hc0 hc1 hn
  go_wp2
  go_ret
  obtain ⟨⟨at_, tree, nd, out, good⟩, hs⟩ := H.out
  obtain ⟨hA, hM, hm⟩ := K.out
  have out' : g ∉ (t.cut key).blocks := fun hy => out (Tree.cut_mem hy)
  have M2 : Mod W1 (W1.setCell ⟨g, 0, none⟩ (.pointer (addr (t.cut key)))) [g] := (Mod.refl W1 _).setCell (.inl (by simp)) _
  refine ⟨rfl, ⟨blk_put hM 0 (.pointer (addr (t.cut key))) rfl, at_mod hA M2 (fun y hy hz => out' (by simp only [List.mem_singleton] at hz; exact hz ▸ hy)), Tree.cut_nodup nd, out', Tree.cut_good good⟩, hm.trans M2 (fun y hy => .inl (by simp only [List.mem_singleton] at hy; simp [hy]))⟩
def KeysM (W : World) (res : List ByteArray) (e : Ending) (W' : World) : Prop :=
  ∃ v', e = .returned v' ∧ W'.ownsRow 0 9 1 v' res.length (pw_strs res) ∧ (∀ y ∈ ownList v', W.heap.size ≤ y) ∧ Mod W W' []
theorem Keys_calls {W : World} {g : Nat} {t : Tree S105} (lo hi : ByteArray) (limit : Int) (h : MapIs W g t) (hs : t.size ≤ 1000000000) : Calls Try.prog 67 #[.pointer (some ⟨g, 0, none⟩), .string lo, .string hi, .int .i64 limit] W (KeysM W (keysT t [] lo hi limit)) := by
  have hc0 : W.cell? ⟨g, 0, none⟩ = some (.pointer (addr t)) := (blk_cell h.at_ 0).trans rfl
  have H := Lib.hid (And.intro h hs)
  clear h hs
  go_enter Try.func67, Try.ntmps67
  go_wp2_with fail
  refine (keys_calls (t := t) (a := none) (c := 0) (acc := []) lo hi limit H.out.1.tree H.out.1.nd (fun y hy => by simp [ownList] at hy) (World.ownsRow_nil _ _ _ _) (by have := H.out.2; simp; omega)).mono ?_
  rintro e W1 ⟨v', rfl, ho, hf, hm⟩
  have K := Lib.hid (And.intro ho (And.intro hf hm))
  clear ho hf hm
  go_wp2
  go_ret
  exact ⟨_, rfl, K.out.1, fun y hy => by rcases K.out.2.1 y hy with h | h; simp [ownList] at h; exact h, K.out.2.2⟩
theorem Cut_none {W : World} (key : ByteArray) : Calls Try.prog 69 #[.pointer none, .string key] W fun e W' => e = .returned (.bool false) ∧ W' = W := by
  go_enter Try.func69, Try.ntmps69
  go_wp2
  go_ret
  exact ⟨rfl, rfl⟩
theorem Keys_none {W : World} (lo hi : ByteArray) (limit : Int) : Calls Try.prog 67 #[.pointer none, .string lo, .string hi, .int .i64 limit] W fun e W' => e = .returned (.slice none 0 0) ∧ W' = W := by
  go_enter Try.func67, Try.ntmps67
  go_wp2
  go_ret
  exact ⟨rfl, rfl⟩
/-! the order of texts -/
theorem bless_eq : ∀ (x y : List UInt8), Op.bytesLess x y = decide (x < y)
  | [], [] => by simp [Op.bytesLess]
  | _ :: _, [] => by simp [Op.bytesLess]
  | [], _ :: _ => by simp [Op.bytesLess]
  | a :: x, b :: y => by
    rw [Op.bytesLess, bless_eq x y]
    simp only [List.cons_lt_cons_iff]
    by_cases h1 : a < b <;> by_cases h2 : a = b <;> by_cases h3 : x < y <;> simp [h1, h2, h3]
theorem lt_iff {a b : ByteArray} : Tree.lt a b = true ↔ a.toList < b.toList := by simp [Tree.lt, bless_eq]
theorem lt_iff' {a b : ByteArray} : Tree.lt a b = false ↔ ¬ a.toList < b.toList := by simp [Tree.lt, bless_eq]
theorem lt_irr (a : ByteArray) : Tree.lt a a = false := lt_iff'.2 (List.lt_irrefl _)
theorem lt_tr {a b c : ByteArray} (h : Tree.lt a b = true) (h' : Tree.lt b c = true) : Tree.lt a c = true := lt_iff.2 (List.lt_trans (lt_iff.1 h) (lt_iff.1 h'))
theorem lt_as {a b : ByteArray} (h : Tree.lt a b = true) : Tree.lt b a = false := by
  cases h' : Tree.lt b a with
  | false => rfl
  | true => have := lt_tr h h'; rw [lt_irr] at this; cases this
theorem lt_ne {a b : ByteArray} (h : Tree.lt a b = true) : a.toList ≠ b.toList := fun e => by
  have := lt_iff.1 h
  rw [e] at this
  exact List.lt_irrefl _ this
theorem lt_l {a b : ByteArray} (h : a.toList = b.toList) (c : ByteArray) : Tree.lt a c = Tree.lt b c := by unfold Tree.lt; rw [h]
theorem lt_r {a b : ByteArray} (h : a.toList = b.toList) (c : ByteArray) : Tree.lt c a = Tree.lt c b := by unfold Tree.lt; rw [h]
theorem lt_tot {a b : ByteArray} (h : Tree.lt a b = false) (h' : a.toList ≠ b.toList) : Tree.lt b a = true := by
  have h1 := lt_iff'.1 h
  have h2 : b.toList ≤ a.toList := List.not_lt.1 h1
  rcases List.le_iff_lt_or_eq.1 h2 with h3 | h3
  · exact lt_iff.2 h3
  · exact absurd h3.symm h'
theorem le_lt {a b c : ByteArray} (h : Tree.lt b a = false) (h' : Tree.lt b c = true) : Tree.lt a c = true := by
  by_cases e : b.toList = a.toList
  · rw [← lt_l e]; exact h'
  · exact lt_tr (lt_tot h e) h'
theorem lt_le {a b c : ByteArray} (h : Tree.lt a b = true) (h' : Tree.lt c b = false) : Tree.lt a c = true := by
  by_cases e : c.toList = b.toList
  · rw [lt_r e]; exact h
  · exact lt_tr h (lt_tot h' e)
/-! a list of pairs in order -/
section
variable {α : Type}
def lset (l : List (ByteArray × α)) (key : ByteArray) (x : α) : List (ByteArray × α) := match l with
  | [] => [(key, x)]
  | (k, v) :: r => if Tree.lt k key = true then (k, v) :: lset r key x else if key.toList = k.toList then (k, x) :: r else (key, x) :: (k, v) :: r
def lcut (l : List (ByteArray × α)) (key : ByteArray) : List (ByteArray × α) := match l with
  | [] => []
  | (k, v) :: r => if Tree.lt k key = true then (k, v) :: lcut r key else if key.toList = k.toList then r else (k, v) :: r
def lget (l : List (ByteArray × α)) (key : ByteArray) : Option α := match l with
  | [] => none
  | (k, v) :: r => if Tree.lt k key = true then lget r key else if key.toList = k.toList then some v else none
def Sorted (l : List (ByteArray × α)) : Prop := l.Pairwise (fun x y => Tree.lt x.1 y.1 = true)
theorem lset_hi (l1 : List (ByteArray × α)) (k : ByteArray) (v : α) (l2 : List (ByteArray × α)) (key : ByteArray) (x : α) (h : Tree.lt key k = true) : lset (l1 ++ (k, v) :: l2) key x = lset l1 key x ++ (k, v) :: l2 := by
  induction l1 with
  | nil => simp only [List.nil_append, lset]; rw [if_neg (by rw [lt_as h]; simp), if_neg (lt_ne h)]; rfl
  | cons p r ih => simp only [List.cons_append, lset]; split; · rw [ih]; rfl
                   split <;> rfl
theorem lset_lo (l1 l2 : List (ByteArray × α)) (key : ByteArray) (x : α) (h : ∀ p ∈ l1, Tree.lt p.1 key = true) : lset (l1 ++ l2) key x = l1 ++ lset l2 key x := by
  induction l1 with
  | nil => rfl
  | cons p r ih => simp only [List.cons_append, lset]; rw [if_pos (h p (by simp)), ih (fun q hq => h q (by simp [hq]))]
theorem lcut_hi (l1 : List (ByteArray × α)) (k : ByteArray) (v : α) (l2 : List (ByteArray × α)) (key : ByteArray) (h : Tree.lt key k = true) : lcut (l1 ++ (k, v) :: l2) key = lcut l1 key ++ (k, v) :: l2 := by
  induction l1 with
  | nil => simp only [List.nil_append, lcut]; rw [if_neg (by rw [lt_as h]; simp), if_neg (lt_ne h)]
  | cons p r ih => simp only [List.cons_append, lcut]; split; · rw [ih]; rfl
                   split <;> rfl
theorem lcut_lo (l1 l2 : List (ByteArray × α)) (key : ByteArray) (h : ∀ p ∈ l1, Tree.lt p.1 key = true) : lcut (l1 ++ l2) key = l1 ++ lcut l2 key := by
  induction l1 with
  | nil => rfl
  | cons p r ih => simp only [List.cons_append, lcut]; rw [if_pos (h p (by simp)), ih (fun q hq => h q (by simp [hq]))]
theorem lget_hi (l1 : List (ByteArray × α)) (k : ByteArray) (v : α) (l2 : List (ByteArray × α)) (key : ByteArray) (h : Tree.lt key k = true) : lget (l1 ++ (k, v) :: l2) key = lget l1 key := by
  induction l1 with
  | nil => simp only [List.nil_append, lget]; rw [if_neg (by rw [lt_as h]; simp), if_neg (lt_ne h)]
  | cons p r ih => simp only [List.cons_append, lget]; split; · exact ih
                   split <;> rfl
theorem lget_lo (l1 l2 : List (ByteArray × α)) (key : ByteArray) (h : ∀ p ∈ l1, Tree.lt p.1 key = true) : lget (l1 ++ l2) key = lget l2 key := by
  induction l1 with
  | nil => rfl
  | cons p r ih => simp only [List.cons_append, lget]; rw [if_pos (h p (by simp)), ih (fun q hq => h q (by simp [hq]))]
theorem sorted_split {l1 l2 : List (ByteArray × α)} {k : ByteArray} {v : α} (h : Sorted (l1 ++ (k, v) :: l2)) : Sorted l1 ∧ Sorted l2 ∧ (∀ p ∈ l1, Tree.lt p.1 k = true) ∧ (∀ p ∈ l2, Tree.lt k p.1 = true) := by
  have h' := List.pairwise_append.1 h
  have h2 := List.pairwise_cons.1 h'.2.1
  exact ⟨h'.1, h2.2, fun p hp => h'.2.2 p hp (k, v) (by simp), fun p hp => h2.1 p hp⟩
theorem lset_mem {l : List (ByteArray × α)} {key : ByteArray} {x : α} {p : ByteArray × α} (h : p ∈ lset l key x) : p.1.toList = key.toList ∨ p ∈ l := by
  induction l with
  | nil => simp only [lset, List.mem_singleton] at h; subst h; exact .inl rfl
  | cons q r ih =>
    simp only [lset] at h
    split at h
    · rcases List.mem_cons.1 h with rfl | h
      · exact .inr (by simp)
      · rcases ih h with h | h
        · exact .inl h
        · exact .inr (by simp [h])
    · split at h
      · rename_i e
        rcases List.mem_cons.1 h with rfl | h
        · exact .inl e.symm
        · exact .inr (by simp [h])
      · rcases List.mem_cons.1 h with rfl | h
        · exact .inl rfl
        · exact .inr h
theorem lset_sorted {l : List (ByteArray × α)} (key : ByteArray) (x : α) (h : Sorted l) : Sorted (lset l key x) := by
  induction l with
  | nil => exact List.pairwise_singleton _ _
  | cons q r ih =>
    obtain ⟨k, v⟩ := q
    have hc := List.pairwise_cons.1 h
    simp only [lset]
    split
    · rename_i e
      refine List.pairwise_cons.2 ⟨fun p hp => ?_, ih hc.2⟩
      rcases lset_mem hp with hh | hh
      · show Tree.lt k p.1 = true
        rw [lt_r hh]; exact e
      · exact hc.1 p hh
    · split
      · exact List.pairwise_cons.2 ⟨hc.1, hc.2⟩
      · rename_i e1 e2
        have e3 : Tree.lt key k = true := lt_tot (by simpa using e1) (fun e => e2 e.symm)
        refine List.pairwise_cons.2 ⟨fun p hp => ?_, h⟩
        rcases List.mem_cons.1 hp with rfl | hp
        · exact e3
        · exact lt_tr e3 (hc.1 p hp)
theorem lcut_sub (l : List (ByteArray × α)) (key : ByteArray) : (lcut l key).Sublist l := by
  induction l with
  | nil => exact List.Sublist.slnil
  | cons q r ih =>
    simp only [lcut]
    split
    · exact List.Sublist.cons_cons _ ih
    · split
      · exact List.sublist_cons_self _ _
      · exact List.Sublist.refl _
theorem lcut_sorted {l : List (ByteArray × α)} (key : ByteArray) (h : Sorted l) : Sorted (lcut l key) := h.sublist (lcut_sub l key)
theorem lset_length (l : List (ByteArray × α)) (key : ByteArray) (x : α) : (lset l key x).length = if (lget l key).isSome then l.length else l.length + 1 := by
  induction l with
  | nil => rfl
  | cons q r ih =>
    simp only [lset, lget]
    split
    · simp only [List.length_cons, ih]; split <;> rfl
    · split <;> simp
theorem lcut_length (l : List (ByteArray × α)) (key : ByteArray) : (lcut l key).length = if (lget l key).isSome then l.length - 1 else l.length := by
  induction l with
  | nil => rfl
  | cons q r ih =>
    simp only [lcut, lget]
    split
    · simp only [List.length_cons, ih]
      split
      · rename_i h
        cases r with
        | nil => simp [lget] at h
        | cons _ _ => simp
      · rfl
    · split <;> simp
theorem list_length (t : Tree α) : t.list.length = t.size := by
  induction t with
  | nil => rfl
  | node b k v h l r il ir => simp only [Tree.list, Tree.size, List.length_append, List.length_cons, il, ir]; omega
theorem set_list {t : Tree α} (key : ByteArray) (x : α) (nb : Nat) (hs : Sorted t.list) : (t.set key x nb).list = lset t.list key x := by
  induction t with
  | nil => rfl
  | node b k v h l r il ir =>
    have hp := sorted_split hs
    rw [Tree.set_node]
    simp only [Tree.list]
    split
    · rename_i c
      rw [Tree.even_list, Tree.list, il hp.1, lset_hi _ _ _ _ _ _ c]
    · rename_i c
      split
      · rename_i e
        rw [lset_lo _ _ _ _ (fun p hq => by rw [lt_r e]; exact hp.2.2.1 p hq)]
        simp only [lset]
        rw [if_neg (by rw [lt_r e, lt_irr]; simp), if_pos e]
        rfl
      · rename_i e
        have c2 : Tree.lt k key = true := lt_tot (by simpa using c) e
        rw [Tree.even_list, Tree.list, ir hp.2.1, lset_lo _ _ _ _ (fun p hq => lt_tr (hp.2.2.1 p hq) c2)]
        simp only [lset]
        rw [if_pos c2]
theorem cut_list {t : Tree α} (key : ByteArray) (hs : Sorted t.list) : (t.cut key).list = lcut t.list key := by
  induction t with
  | nil => rfl
  | node b k v h l r il ir =>
    have hp := sorted_split hs
    rw [Tree.cut_node]
    simp only [Tree.list]
    split
    · rename_i c
      rw [Tree.even_list, Tree.list, il hp.1, lcut_hi _ _ _ _ _ c]
    · rename_i c
      split
      · rename_i e
        rw [lcut_lo _ _ _ (fun p hq => by rw [lt_r e]; exact hp.2.2.1 p hq)]
        simp only [lcut]
        rw [if_neg (by rw [lt_r e, lt_irr]; simp), if_pos e]
        cases hl : r.least with
        | none => rw [Tree.least_none hl]; simp [Tree.list]
        | some q =>
          obtain ⟨b2, k2, v2, h2⟩ := q
          simp only
          rw [Tree.even_list, Tree.list, Tree.least_list hl]
      · rename_i e
        have c2 : Tree.lt k key = true := lt_tot (by simpa using c) e
        rw [Tree.even_list, Tree.list, ir hp.2.1, lcut_lo _ _ _ (fun p hq => lt_tr (hp.2.2.1 p hq) c2)]
        simp only [lcut]
        rw [if_pos c2]
theorem has_list {t : Tree α} (key : ByteArray) (hs : Sorted t.list) : t.has key = (lget t.list key).isSome := by
  induction t with
  | nil => rfl
  | node b k v h l r il ir =>
    have hp := sorted_split hs
    rw [Tree.has_node]
    simp only [Tree.list]
    split
    · rename_i c
      rw [il hp.1, lget_hi _ _ _ _ _ c]
    · rename_i c
      split
      · rename_i e
        rw [lget_lo _ _ _ (fun p hq => by rw [lt_r e]; exact hp.2.2.1 p hq)]
        simp only [lget]
        rw [if_neg (by rw [lt_r e, lt_irr]; simp), if_pos e]
        rfl
      · rename_i e
        have c2 : Tree.lt k key = true := lt_tot (by simpa using c) e
        rw [ir hp.2.1, lget_lo _ _ _ (fun p hq => lt_tr (hp.2.2.1 p hq) c2)]
        simp only [lget]
        rw [if_pos c2]
theorem getT_list {t : Tree S105} (key : ByteArray) (hs : Sorted t.list) : getT t key = lget t.list key := by
  induction t with
  | nil => rfl
  | node b k v h l r il ir =>
    have hp := sorted_split hs
    rw [getT_node]
    simp only [Tree.list]
    split
    · rename_i c
      rw [il hp.1, lget_hi _ _ _ _ _ c]
    · rename_i c
      split
      · rename_i e
        rw [lget_lo _ _ _ (fun p hq => by rw [lt_r e]; exact hp.2.2.1 p hq)]
        simp only [lget]
        rw [if_neg (by rw [lt_r e, lt_irr]; simp), if_pos e]
      · rename_i e
        have c2 : Tree.lt k key = true := lt_tot (by simpa using c) e
        rw [ir hp.2.1, lget_lo _ _ _ (fun p hq => lt_tr (hp.2.2.1 p hq) c2)]
        simp only [lget]
        rw [if_pos c2]
end
/-! the keys of a range -/
def inR (lo hi k : ByteArray) : Bool := decide ((Tree.lt lo k = true ∨ lo.toList = k.toList) ∧ (hi.toList = [] ∨ Tree.lt k hi = true))
def rangeL {α : Type} (l : List (ByteArray × α)) (lo hi : ByteArray) : List ByteArray := (l.map Prod.fst).filter (inR lo hi)
theorem rangeL_app {α : Type} (a b : List (ByteArray × α)) (lo hi : ByteArray) : rangeL (a ++ b) lo hi = rangeL a lo hi ++ rangeL b lo hi := by simp [rangeL]
theorem rangeL_none {α : Type} {a : List (ByteArray × α)} {lo hi : ByteArray} (h : ∀ p ∈ a, inR lo hi p.1 = false) : rangeL a lo hi = [] := by
  rw [rangeL, List.filter_eq_nil_iff]
  intro k hk
  obtain ⟨p, hp, rfl⟩ := List.mem_map.1 hk
  rw [h p hp]; simp
def upto (acc xs : List ByteArray) (limit : Int) : List ByteArray := acc ++ xs.take (limit - acc.length).toNat
theorem upto_nil (acc : List ByteArray) (limit : Int) : upto acc [] limit = acc := by simp [upto]
theorem upto_upto (acc a b : List ByteArray) (limit : Int) : upto (upto acc a limit) b limit = upto acc (a ++ b) limit := by
  simp only [upto, List.take_append, List.append_assoc, List.length_append, List.length_take]
  congr 3
  omega
theorem upto_one (acc : List ByteArray) (k : ByteArray) (limit : Int) : upto acc [k] limit = if (acc.length : Int) < limit then acc ++ [k] else acc := by
  split
  · rename_i h
    obtain ⟨n, hn⟩ : ∃ n, (limit - (acc.length : Int)).toNat = n + 1 := ⟨(limit - (acc.length : Int)).toNat - 1, by omega⟩
    rw [upto, hn]; simp
  · rename_i h
    rw [upto, show (limit - (acc.length : Int)).toNat = 0 by omega]; simp
theorem upto_full (acc xs : List ByteArray) (limit : Int) (h : (acc.length : Int) ≥ limit) : upto acc xs limit = acc := by
  rw [upto, show (limit - (acc.length : Int)).toNat = 0 by omega]; simp
theorem keysT_list (t : Tree S105) : ∀ (acc : List ByteArray) (lo hi : ByteArray) (limit : Int), Sorted t.list → keysT t acc lo hi limit = upto acc (rangeL t.list lo hi) limit := by
  induction t with
  | nil => intro acc lo hi limit _; simp [keysT, Tree.list, rangeL, upto]
  | node b k v h l r il ir =>
    intro acc lo hi limit hs
    have hp := sorted_split hs
    rw [keysT_node]
    by_cases c0 : (acc.length : Int) ≥ limit
    · rw [if_pos c0, upto_full _ _ _ c0]
    rw [if_neg c0]
    have hL : (if Tree.lt lo k = true then keysT l acc lo hi limit else acc) = upto acc (rangeL l.list lo hi) limit := by
      by_cases c : Tree.lt lo k = true
      · rw [if_pos c, il _ _ _ _ hp.1]
      · rw [if_neg c, rangeL_none (a := l.list), upto_nil]
        intro p hq
        have h1 : Tree.lt p.1 lo = true := lt_le (hp.2.2.1 p hq) (by simpa using c)
        exact decide_eq_false (fun hh => hh.1.elim (fun z => by rw [lt_as h1] at z; cases z) (fun z => lt_ne h1 z.symm))
    rw [hL]
    have hM : ∀ a1, midK k lo hi limit a1 = upto a1 (rangeL [(k, v)] lo hi) limit := by
      intro a1
      have e : rangeL [(k, v)] lo hi = if inR lo hi k = true then [k] else [] := by simp [rangeL, List.filter_cons]
      rw [e, midK]
      by_cases c : inR lo hi k = true
      · rw [if_pos c, upto_one]
        have c' := of_decide_eq_true c
        by_cases c2 : (a1.length : Int) < limit
        · rw [if_pos ⟨c'.1, c'.2, c2⟩, if_pos c2]
        · rw [if_neg (fun hh => c2 hh.2.2), if_neg c2]
      · rw [if_neg c, upto_nil, if_neg (fun hh => c (decide_eq_true ⟨hh.1, hh.2.1⟩))]
    rw [hM, upto_upto]
    have hR : ∀ a2, (if hi.toList = [] ∨ Tree.lt k hi = true then keysT r a2 lo hi limit else a2) = upto a2 (rangeL r.list lo hi) limit := by
      intro a2
      by_cases c : hi.toList = [] ∨ Tree.lt k hi = true
      · rw [if_pos c, ir _ _ _ _ hp.2.1]
      · rw [if_neg c, rangeL_none (a := r.list), upto_nil]
        intro p hq
        have h1 : Tree.lt hi p.1 = true := le_lt (by simpa using fun z => c (.inr z)) (hp.2.2.2 p hq)
        exact decide_eq_false (fun hh => hh.2.elim (fun z => c (.inl z)) (fun z => by rw [lt_as h1] at z; cases z))
    rw [hR, upto_upto]
    congr 1
    simp only [Tree.list]
    rw [rangeL_app, List.append_assoc, show (k, v) :: r.list = [(k, v)] ++ r.list from rfl, rangeL_app]
theorem keysT_nil (t : Tree S105) (lo hi : ByteArray) (limit : Int) (hs : Sorted t.list) : keysT t [] lo hi limit = (rangeL t.list lo hi).take limit.toNat := by
  rw [keysT_list t [] lo hi limit hs]; simp [upto]
/-- A map that has the pairs l, in order, and lies in the blocks fp. -/
def MapF (W : World) (g : Nat) (l : List (ByteArray × S105)) (fp : List Nat) : Prop := ∃ t, MapIs W g t ∧ t.list = l ∧ Sorted l ∧ fp = g :: t.blocks
theorem MapF.mod {W W' : World} {g : Nat} {l : List (ByteArray × S105)} {fp fp2 : List Nat} (h : MapF W g l fp) (m : Mod W W' fp2) (hd : ∀ x ∈ fp, x ∉ fp2) : MapF W' g l fp := by
  obtain ⟨t, h1, h2, h3, rfl⟩ := h
  exact ⟨t, h1.mod m (hd g (by simp)) (fun x hx => hd x (by simp [hx])), h2, h3, rfl⟩
theorem MapF.lt {W : World} {g : Nat} {l : List (ByteArray × S105)} {fp : List Nat} (h : MapF W g l fp) : ∀ x ∈ fp, x < W.heap.size := by
  obtain ⟨t, h1, h2, h3, rfl⟩ := h
  exact h1.lt
theorem MapF.sorted {W : World} {g : Nat} {l : List (ByteArray × S105)} {fp : List Nat} (h : MapF W g l fp) : Sorted l := by
  obtain ⟨t, h1, h2, h3, rfl⟩ := h
  exact h3
def NewP (W : World) (e : Ending) (W' : World) : Prop := e = .returned (.pointer (some ⟨W.heap.size, 0, none⟩)) ∧ MapF W' W.heap.size [] [W.heap.size] ∧ Mod W W' []
theorem mnew {W : World} : Calls Try.prog 58 #[] W (NewP W) := by
  refine new_calls.mono ?_
  rintro e W' ⟨rfl, h, m⟩
  exact ⟨rfl, ⟨.nil, h, rfl, List.Pairwise.nil, rfl⟩, m⟩
def SetP (W : World) (g : Nat) (l : List (ByteArray × S105)) (fp : List Nat) (key : ByteArray) (x : S105) (e : Ending) (W' : World) : Prop :=
  e = .returned (.tuple #[]) ∧ ∃ fp', MapF W' g (lset l key x) fp' ∧ Mod W W' fp ∧ ∀ y ∈ fp', y ∈ fp ∨ W.heap.size ≤ y
theorem mset {W : World} {g : Nat} {l : List (ByteArray × S105)} {fp : List Nat} (key : ByteArray) (x : S105) (h : MapF W g l fp) (hl : l.length ≤ 1000000000) :
    Calls Try.prog 66 #[.pointer (some ⟨g, 0, none⟩), .string key, .agg #[.int .u32 x.f0.f0, .int .u32 x.f0.f1, .string x.f1.f0, .string x.f1.f1, .bool x.f1.f2]] W (SetP W g l fp key x) := by
  obtain ⟨t, h1, h2, h3, rfl⟩ := h
  subst h2
  rw [list_length] at hl
  refine (Set_calls key x h1 hl).mono ?_
  rintro e W' ⟨rfl, nb, hb, hm, md⟩
  refine ⟨rfl, _, ⟨_, hm, set_list key x nb h3, lset_sorted key x h3, rfl⟩, md, fun y hy => ?_⟩
  rcases List.mem_cons.1 hy with rfl | hy
  · exact .inl (by simp)
  · rcases Tree.set_mem hy with rfl | hy
    · exact .inr hb
    · exact .inl (by simp [hy])
theorem mget {W : World} {g : Nat} {l : List (ByteArray × S105)} {fp : List Nat} (key : ByteArray) (h : MapF W g l fp) :
    Calls Try.prog 61 #[.pointer (some ⟨g, 0, none⟩), .string key] W fun e W' => e = getEnd (lget l key) ∧ Mod W W' [] := by
  obtain ⟨t, h1, h2, h3, rfl⟩ := h
  subst h2
  rw [← getT_list key h3]
  exact Get_calls key h1
def CutP (W : World) (g : Nat) (l : List (ByteArray × S105)) (fp : List Nat) (key : ByteArray) (e : Ending) (W' : World) : Prop :=
  e = .returned (.bool (lget l key).isSome) ∧ ∃ fp', MapF W' g (lcut l key) fp' ∧ Mod W W' fp ∧ ∀ y ∈ fp', y ∈ fp
theorem mcut {W : World} {g : Nat} {l : List (ByteArray × S105)} {fp : List Nat} (key : ByteArray) (h : MapF W g l fp) (hl : l.length ≤ 1000000000) :
    Calls Try.prog 69 #[.pointer (some ⟨g, 0, none⟩), .string key] W (CutP W g l fp key) := by
  obtain ⟨t, h1, h2, h3, rfl⟩ := h
  subst h2
  rw [list_length] at hl
  refine (Cut_calls key h1 hl).mono ?_
  rintro e W' ⟨rfl, hm, md⟩
  refine ⟨by rw [has_list key h3], _, ⟨_, hm, cut_list key h3, lcut_sorted key h3, rfl⟩, md, fun y hy => ?_⟩
  rcases List.mem_cons.1 hy with rfl | hy
  · simp
  · simp [Tree.cut_mem hy]
theorem mkeys {W : World} {g : Nat} {l : List (ByteArray × S105)} {fp : List Nat} (lo hi : ByteArray) (limit : Int) (h : MapF W g l fp) (hl : l.length ≤ 1000000000) :
    Calls Try.prog 67 #[.pointer (some ⟨g, 0, none⟩), .string lo, .string hi, .int .i64 limit] W (KeysM W ((rangeL l lo hi).take limit.toNat)) := by
  obtain ⟨t, h1, h2, h3, rfl⟩ := h
  subst h2
  rw [list_length] at hl
  rw [← keysT_nil t lo hi limit h3]
  exact Keys_calls lo hi limit h1 hl
theorem own_cells {W : World} {v : Value} {xs : List ByteArray} (h : W.ownsRow 0 9 1 v xs.length (pw_strs xs)) (hn : 0 < xs.length) : ∃ g c, v = .slice (some ⟨g, 0, none⟩) xs.length c ∧ ∀ i (hi : i < xs.length), W.cell? ⟨g, i, none⟩ = some (.string xs[i]) := by
  obtain ⟨g, c, hv, -, -⟩ := h.form hn
  refine ⟨g, c, hv, fun i hi => ?_⟩
  have e := h.cells (g := g) (by rw [hv]; rfl) i (.string xs[i]) (by simp [pw_strs, hi])
  have ea : (⟨g, 0, none⟩ : Addr).add i = ⟨g, i, none⟩ := by cases i <;> simp [Addr.add]
  rw [ea] at e
  exact e
end Go.Proofs.Ytdelbidaclddgaa.Lat
