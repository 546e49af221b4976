/- A balanced tree as plain data, each node with its block's number: what the layer 'order' does to it, with no program in sight; a seat's own text, no law of its own. -/
import Derived.Tactics
namespace Go.Proofs.Ytdelbidaclddgaa.Lat
set_option linter.unusedVariables false

/-- A tree of nodes: block, key, value, stored height, children. -/
inductive Tree (α : Type) where
  | nil : Tree α
  | node (b : Nat) (k : ByteArray) (v : α) (h : Int) (l r : Tree α) : Tree α
namespace Tree
variable {α : Type}
def height : Tree α → Int
  | nil => 0
  | node _ _ _ h _ _ => h
def left : Tree α → Tree α
  | nil => nil
  | node _ _ _ _ l _ => l
def right : Tree α → Tree α
  | nil => nil
  | node _ _ _ _ _ r => r
def blocks : Tree α → List Nat
  | nil => []
  | node b _ _ _ l r => b :: (l.blocks ++ r.blocks)
def size : Tree α → Nat
  | nil => 0
  | node _ _ _ _ l r => 1 + l.size + r.size
def list : Tree α → List (ByteArray × α)
  | nil => []
  | node _ k v _ l r => l.list ++ (k, v) :: r.list
def measure : Tree α → Tree α
  | nil => nil
  | node b k v _ l r => node b k v (1 + max l.height r.height) l r
/-- The left child on top. -/
def turnL : Tree α → Tree α
  | node b k v h (node b2 k2 v2 h2 l2 r2) r => measure (node b2 k2 v2 h2 l2 (measure (node b k v h r2 r)))
  | t => t
/-- The right child on top. -/
def turnR : Tree α → Tree α
  | node b k v h l (node b2 k2 v2 h2 l2 r2) => measure (node b2 k2 v2 h2 (measure (node b k v h l l2)) r2)
  | t => t
def setLeft (t : Tree α) (l : Tree α) : Tree α := match t with
  | nil => nil
  | node b k v h _ r => node b k v h l r
def setRight (t : Tree α) (r : Tree α) : Tree α := match t with
  | nil => nil
  | node b k v h l _ => node b k v h l r
def even (t : Tree α) : Tree α :=
  let t := t.measure
  if t.left.height - t.right.height > 1 then (if t.left.left.height < t.left.right.height then t.setLeft t.left.turnR else t).turnL
  else if t.left.height - t.right.height < -1 then (if t.right.right.height < t.right.left.height then t.setRight t.right.turnL else t).turnR
  else t
theorem height_node (b : Nat) (k : ByteArray) (v : α) (h : Int) (l r : Tree α) : (node b k v h l r).height = h := rfl
theorem left_node (b : Nat) (k : ByteArray) (v : α) (h : Int) (l r : Tree α) : (node b k v h l r).left = l := rfl
theorem right_node (b : Nat) (k : ByteArray) (v : α) (h : Int) (l r : Tree α) : (node b k v h l r).right = r := rfl
/-- Each stored height is the true one. -/
def Good : Tree α → Prop
  | nil => True
  | node _ _ _ h l r => h = 1 + max l.height r.height ∧ l.Good ∧ r.Good
theorem height_good {t : Tree α} (h : t.Good) : 0 ≤ t.height ∧ t.height ≤ t.size ∧ (t.height = 0 → t = nil) := by
  induction t with
  | nil => simp [height, size]
  | node b k v hh l r il ir =>
    obtain ⟨h1, h2, h3⟩ := h
    have a := il h2
    have c := ir h3
    refine ⟨?_, ?_, ?_⟩ <;> simp only [height, size] <;> omega
end Tree
namespace Tree
variable {α : Type}
theorem measure_blocks (t : Tree α) : t.measure.blocks = t.blocks := by cases t <;> rfl
theorem measure_list (t : Tree α) : t.measure.list = t.list := by cases t <;> rfl
theorem perm_of_count {l m : List Nat} (h : ∀ a, l.count a = m.count a) : l.Perm m := List.perm_iff_count.2 h
theorem turnL_perm (t : Tree α) : t.turnL.blocks.Perm t.blocks := by
  match t with
  | nil => exact .refl _
  | node b k v h nil r => exact .refl _
  | node b k v h (node b2 k2 v2 h2 l2 r2) r =>
    refine perm_of_count fun a => ?_
    simp only [turnL, measure, blocks, List.count_cons, List.count_append]
    omega
theorem turnR_perm (t : Tree α) : t.turnR.blocks.Perm t.blocks := by
  match t with
  | nil => exact .refl _
  | node b k v h l nil => exact .refl _
  | node b k v h l (node b2 k2 v2 h2 l2 r2) =>
    refine perm_of_count fun a => ?_
    simp only [turnR, measure, blocks, List.count_cons, List.count_append]
    omega
theorem turnL_list (t : Tree α) : t.turnL.list = t.list := by
  match t with
  | nil => rfl
  | node b k v h nil r => rfl
  | node b k v h (node b2 k2 v2 h2 l2 r2) r => simp [turnL, measure, list]
theorem turnR_list (t : Tree α) : t.turnR.list = t.list := by
  match t with
  | nil => rfl
  | node b k v h l nil => rfl
  | node b k v h l (node b2 k2 v2 h2 l2 r2) => simp [turnR, measure, list]
theorem setLeft_turnR_perm (t : Tree α) : (t.setLeft t.left.turnR).blocks.Perm t.blocks := by
  cases t with
  | nil => exact .refl _
  | node b k v h l r =>
    have := turnR_perm l
    refine perm_of_count fun a => ?_
    have := List.perm_iff_count.1 this a
    simp only [setLeft, left, blocks, List.count_cons, List.count_append]
    omega
theorem setRight_turnL_perm (t : Tree α) : (t.setRight t.right.turnL).blocks.Perm t.blocks := by
  cases t with
  | nil => exact .refl _
  | node b k v h l r =>
    have := turnL_perm r
    refine perm_of_count fun a => ?_
    have := List.perm_iff_count.1 this a
    simp only [setRight, right, blocks, List.count_cons, List.count_append]
    omega
theorem even_perm (t : Tree α) : t.even.blocks.Perm t.blocks := by
  rw [← measure_blocks t]
  unfold even
  dsimp only
  split
  · refine (turnL_perm _).trans ?_
    split
    · exact setLeft_turnR_perm _
    · exact .refl _
  · split
    · refine (turnR_perm _).trans ?_
      split
      · exact setRight_turnL_perm _
      · exact .refl _
    · exact .refl _
theorem setLeft_list (t : Tree α) : (t.setLeft t.left.turnR).list = t.list := by
  cases t with
  | nil => rfl
  | node b k v h l r => simp only [setLeft, left, list, turnR_list]
theorem setRight_list (t : Tree α) : (t.setRight t.right.turnL).list = t.list := by
  cases t with
  | nil => rfl
  | node b k v h l r => simp only [setRight, right, list, turnL_list]
theorem even_list (t : Tree α) : t.even.list = t.list := by
  rw [← measure_list t]
  unfold even
  dsimp only
  split
  · rw [turnL_list]
    split
    · exact setLeft_list _
    · rfl
  · split
    · rw [turnR_list]
      split
      · exact setRight_list _
      · rfl
    · rfl
theorem measure_good {b : Nat} {k : ByteArray} {v : α} {h : Int} {l r : Tree α} (hl : l.Good) (hr : r.Good) : (node b k v h l r).measure.Good := ⟨rfl, hl, hr⟩
theorem turnL_good {t : Tree α} (h : t.Good) : t.turnL.Good := by
  match t, h with
  | nil, _ => trivial
  | node b k v hh nil r, h => exact h
  | node b k v hh (node b2 k2 v2 h2 l2 r2) r, ⟨_, ⟨_, a, c⟩, d⟩ => exact ⟨rfl, a, rfl, c, d⟩
theorem turnR_good {t : Tree α} (h : t.Good) : t.turnR.Good := by
  match t, h with
  | nil, _ => trivial
  | node b k v hh l nil, h => exact h
  | node b k v hh l (node b2 k2 v2 h2 l2 r2), ⟨_, a, _, c, d⟩ => exact ⟨rfl, ⟨rfl, a, c⟩, d⟩
/-- Two children that are good are turned about as one wishes: what comes is good, whatever the heights stored above. -/
theorem turnL_good' {b : Nat} {k : ByteArray} {v : α} {h : Int} {l r : Tree α} (hl : l.Good) (hr : r.Good) (hn : l ≠ nil) : (node b k v h l r).turnL.Good := by
  match l, hl, hn with
  | node b2 k2 v2 h2 l2 r2, ⟨_, a, c⟩, _ => exact ⟨rfl, a, rfl, c, hr⟩
theorem turnR_good' {b : Nat} {k : ByteArray} {v : α} {h : Int} {l r : Tree α} (hl : l.Good) (hr : r.Good) (hn : r ≠ nil) : (node b k v h l r).turnR.Good := by
  match r, hr, hn with
  | node b2 k2 v2 h2 l2 r2, ⟨_, a, c⟩, _ => exact ⟨rfl, ⟨rfl, hl, a⟩, c⟩
theorem turnL_ne {t : Tree α} (h : t ≠ nil) : t.turnL ≠ nil := by
  match t, h with
  | node b k v hh nil r, _ => simp [turnL]
  | node b k v hh (node b2 k2 v2 h2 l2 r2) r, _ => simp [turnL, measure]
theorem turnR_ne {t : Tree α} (h : t ≠ nil) : t.turnR ≠ nil := by
  match t, h with
  | node b k v hh l nil, _ => simp [turnR]
  | node b k v hh l (node b2 k2 v2 h2 l2 r2), _ => simp [turnR, measure]
theorem ne_of_height {t : Tree α} (h : t.Good) (hh : 0 < t.height) : t ≠ nil := by
  rintro rfl
  simp [height] at hh
theorem even_node {b : Nat} {k : ByteArray} {v : α} {h : Int} {l r : Tree α} : (node b k v h l r).even =
    if l.height - r.height > 1 then (if l.left.height < l.right.height then node b k v (1 + max l.height r.height) l.turnR r else node b k v (1 + max l.height r.height) l r).turnL
    else if l.height - r.height < -1 then (if r.right.height < r.left.height then node b k v (1 + max l.height r.height) l r.turnL else node b k v (1 + max l.height r.height) l r).turnR
    else node b k v (1 + max l.height r.height) l r := rfl
theorem even_good {b : Nat} {k : ByteArray} {v : α} {h : Int} {l r : Tree α} (hl : l.Good) (hr : r.Good) : (node b k v h l r).even.Good := by
  rw [even_node]
  have a := height_good hl
  have c := height_good hr
  split
  · rename_i h1
    have ne : l ≠ nil := ne_of_height hl (by omega)
    split
    · exact turnL_good' (turnR_good hl) hr (turnR_ne ne)
    · exact turnL_good' hl hr ne
  · split
    · rename_i h1 h2
      have ne : r ≠ nil := ne_of_height hr (by omega)
      split
      · exact turnR_good' hl (turnL_good hr) (turnL_ne ne)
      · exact turnR_good' hl hr ne
    · exact ⟨rfl, hl, hr⟩
theorem size_blocks (t : Tree α) : t.blocks.length = t.size := by
  induction t with
  | nil => rfl
  | node b k v h l r il ir => simp only [blocks, size, List.length_cons, List.length_append, il, ir]; omega
theorem even_size (t : Tree α) : t.even.size = t.size := by
  rw [← size_blocks, ← size_blocks]
  exact (even_perm t).length_eq

theorem nd_node {b : Nat} {k : ByteArray} {v : α} {h : Int} {l r : Tree α} (hn : (node b k v h l r).blocks.Nodup) : b ∉ l.blocks ∧ b ∉ r.blocks ∧ l.blocks.Nodup ∧ r.blocks.Nodup ∧ (∀ x ∈ l.blocks, x ∉ r.blocks) ∧ ∀ x ∈ r.blocks, x ∉ l.blocks := by
  simp only [blocks, List.nodup_cons, List.nodup_append, List.mem_append, not_or] at hn
  obtain ⟨⟨h1, h2⟩, h3, h4, h5⟩ := hn
  exact ⟨h1, h2, h3, h4, fun x hx hy => h5 x hx x hy rfl, fun x hx hy => h5 x hy x hx rfl⟩
theorem nd_left {b b2 : Nat} {k k2 : ByteArray} {v v2 : α} {h h2 : Int} {l2 r2 r : Tree α} (hn : (node b k v h (node b2 k2 v2 h2 l2 r2) r).blocks.Nodup) :
    b ≠ b2 ∧ (∀ x ∈ l2.blocks, x ∉ [b, b2]) ∧ (∀ x ∈ r2.blocks, x ∉ [b, b2]) ∧ (∀ x ∈ r.blocks, x ∉ [b, b2]) := by
  obtain ⟨h1, h2, h3, h4, h5, h6⟩ := nd_node hn
  obtain ⟨g1, g2, g3, g4, g5, g6⟩ := nd_node h3
  simp only [blocks, List.mem_cons, List.mem_append, not_or] at h1 h5 h6
  refine ⟨h1.1, fun x hx hm => ?_, fun x hx hm => ?_, fun x hx hm => ?_⟩ <;> simp only [List.mem_cons, List.not_mem_nil, or_false] at hm <;> rcases hm with rfl | rfl
  · exact h1.2.1 hx
  · exact g1 hx
  · exact h1.2.2 hx
  · exact g2 hx
  · exact h2 hx
  · exact h5 x (.inl rfl) hx
theorem nd_right {b b2 : Nat} {k k2 : ByteArray} {v v2 : α} {h h2 : Int} {l l2 r2 : Tree α} (hn : (node b k v h l (node b2 k2 v2 h2 l2 r2)).blocks.Nodup) :
    b ≠ b2 ∧ (∀ x ∈ l2.blocks, x ∉ [b, b2]) ∧ (∀ x ∈ r2.blocks, x ∉ [b, b2]) ∧ (∀ x ∈ l.blocks, x ∉ [b, b2]) := by
  obtain ⟨h1, h2, h3, h4, h5, h6⟩ := nd_node hn
  obtain ⟨g1, g2, g3, g4, g5, g6⟩ := nd_node h4
  simp only [blocks, List.mem_cons, List.mem_append, not_or] at h2 h5 h6
  refine ⟨h2.1, fun x hx hm => ?_, fun x hx hm => ?_, fun x hx hm => ?_⟩ <;> simp only [List.mem_cons, List.not_mem_nil, or_false] at hm <;> rcases hm with rfl | rfl
  · exact h2.2.1 hx
  · exact g1 hx
  · exact h2.2.2 hx
  · exact g2 hx
  · exact h1 hx
  · exact (h5 x hx).1 rfl

/-! setting and cutting -/
def lt (a b : ByteArray) : Bool := Go.Op.bytesLess a.toList b.toList
def set (t : Tree α) (key : ByteArray) (x : α) (nb : Nat) : Tree α := match t with
  | nil => node nb key x 1 nil nil
  | node b k v h l r => if lt key k = true then even (node b k v h (l.set key x nb) r) else if key.toList = k.toList then node b k x h l r else even (node b k v h l (r.set key x nb))
def has (t : Tree α) (key : ByteArray) : Bool := match t with
  | nil => false
  | node b k v h l r => if lt key k = true then l.has key else if key.toList = k.toList then true else r.has key
def rest (t : Tree α) : Tree α := match t with
  | nil => nil
  | node b k v h l r => match l with
    | nil => r
    | node b2 k2 v2 h2 l2 r2 => even (node b k v h (node b2 k2 v2 h2 l2 r2).rest r)
/-- The first node: block, key, value, stored height. -/
def least (t : Tree α) : Option (Nat × ByteArray × α × Int) := match t with
  | nil => none
  | node b k v h l r => match l with
    | nil => some (b, k, v, h)
    | node b2 k2 v2 h2 l2 r2 => (node b2 k2 v2 h2 l2 r2).least
def cut (t : Tree α) (key : ByteArray) : Tree α := match t with
  | nil => nil
  | node b k v h l r => if lt key k = true then even (node b k v h (l.cut key) r) else if key.toList = k.toList then (match r.least with
      | none => l
      | some (b2, k2, v2, h2) => even (node b2 k2 v2 h2 l r.rest)) else even (node b k v h l (r.cut key))
theorem set_node (b : Nat) (k : ByteArray) (v : α) (h : Int) (l r : Tree α) (key : ByteArray) (x : α) (nb : Nat) : (node b k v h l r).set key x nb =
    if lt key k = true then even (node b k v h (l.set key x nb) r) else if key.toList = k.toList then node b k x h l r else even (node b k v h l (r.set key x nb)) := rfl
theorem has_node (b : Nat) (k : ByteArray) (v : α) (h : Int) (l r : Tree α) (key : ByteArray) : (node b k v h l r).has key = if lt key k = true then l.has key else if key.toList = k.toList then true else r.has key := rfl
theorem cut_node (b : Nat) (k : ByteArray) (v : α) (h : Int) (l r : Tree α) (key : ByteArray) : (node b k v h l r).cut key =
    if lt key k = true then even (node b k v h (l.cut key) r) else if key.toList = k.toList then (match r.least with
      | none => l
      | some (b2, k2, v2, h2) => even (node b2 k2 v2 h2 l r.rest)) else even (node b k v h l (r.cut key)) := rfl
theorem set_good {t : Tree α} {key : ByteArray} {x : α} {nb : Nat} (h : t.Good) : (t.set key x nb).Good := by
  induction t with
  | nil => exact ⟨rfl, trivial, trivial⟩
  | node b k v hh l r il ir =>
    unfold set
    split
    · exact even_good (il h.2.1) h.2.2
    · split
      · exact ⟨h.1, h.2.1, h.2.2⟩
      · exact even_good h.2.1 (ir h.2.2)
theorem rest_good {t : Tree α} (h : t.Good) : t.rest.Good := by
  induction t with
  | nil => exact h
  | node b k v hh l r il ir =>
    cases l with
    | nil => exact h.2.2
    | node b2 k2 v2 h2 l2 r2 => exact even_good (il h.2.1) h.2.2
theorem cut_good {t : Tree α} {key : ByteArray} (h : t.Good) : (t.cut key).Good := by
  induction t with
  | nil => exact h
  | node b k v hh l r il ir =>
    unfold cut
    split
    · exact even_good (il h.2.1) h.2.2
    · split
      · split
        · exact h.2.1
        · exact even_good h.2.1 (rest_good h.2.2)
      · exact even_good h.2.1 (ir h.2.2)
theorem least_none {t : Tree α} (h : t.least = none) : t = nil := by
  induction t with
  | nil => rfl
  | node b k v hh l r il ir =>
    cases l with
    | nil => simp [least] at h
    | node b2 k2 v2 h2 l2 r2 =>
      unfold least at h
      have := il h
      cases this
theorem least_blocks {t : Tree α} {b : Nat} {k : ByteArray} {v : α} {h : Int} (hl : t.least = some (b, k, v, h)) : t.blocks.Perm (b :: t.rest.blocks) := by
  induction t with
  | nil => simp [least] at hl
  | node b1 k1 v1 h1 l r il ir =>
    cases l with
    | nil =>
      simp only [least, Option.some.injEq, Prod.mk.injEq] at hl
      obtain ⟨rfl, _⟩ := hl
      simp [blocks, rest]
    | node b2 k2 v2 h2 l2 r2 =>
      have e : (node b1 k1 v1 h1 (node b2 k2 v2 h2 l2 r2) r).least = (node b2 k2 v2 h2 l2 r2).least := rfl
      rw [e] at hl
      have h3 := il hl
      have e2 : (node b1 k1 v1 h1 (node b2 k2 v2 h2 l2 r2) r).rest = even (node b1 k1 v1 h1 (node b2 k2 v2 h2 l2 r2).rest r) := rfl
      rw [e2]
      have h4 := even_perm (node b1 k1 v1 h1 (node b2 k2 v2 h2 l2 r2).rest r)
      refine perm_of_count fun a => ?_
      have c3 := List.perm_iff_count.1 h3 a
      have c4 := List.perm_iff_count.1 h4 a
      simp only [blocks, List.count_cons, List.count_append] at c3 c4 ⊢
      omega
theorem least_list {t : Tree α} {b : Nat} {k : ByteArray} {v : α} {h : Int} (hl : t.least = some (b, k, v, h)) : t.list = (k, v) :: t.rest.list := by
  induction t with
  | nil => simp [least] at hl
  | node b1 k1 v1 h1 l r il ir =>
    cases l with
    | nil =>
      simp only [least, Option.some.injEq, Prod.mk.injEq] at hl
      obtain ⟨rfl, rfl, rfl, rfl⟩ := hl
      rfl
    | node b2 k2 v2 h2 l2 r2 =>
      have e : (node b1 k1 v1 h1 (node b2 k2 v2 h2 l2 r2) r).least = (node b2 k2 v2 h2 l2 r2).least := rfl
      rw [e] at hl
      have h3 := il hl
      have e2 : (node b1 k1 v1 h1 (node b2 k2 v2 h2 l2 r2) r).rest = even (node b1 k1 v1 h1 (node b2 k2 v2 h2 l2 r2).rest r) := rfl
      rw [e2, even_list]
      simp only [list] at h3 ⊢
      rw [h3]
      rfl
theorem set_blocks {t : Tree α} {key : ByteArray} {x : α} {nb : Nat} : (t.set key x nb).blocks.Perm (if t.has key = true then t.blocks else nb :: t.blocks) := by
  induction t with
  | nil => simp [set, has, blocks]
  | node b k v h l r il ir =>
    unfold set has
    split
    · refine (even_perm _).trans (perm_of_count fun a => ?_)
      have := List.perm_iff_count.1 il a
      split at this <;> simp_all only [blocks, List.count_cons, List.count_append, if_true, if_false, Bool.false_eq_true] <;> omega
    · split
      · simp [blocks]
      · refine (even_perm _).trans (perm_of_count fun a => ?_)
        have := List.perm_iff_count.1 ir a
        split at this <;> simp_all only [blocks, List.count_cons, List.count_append, if_true, if_false, Bool.false_eq_true] <;> omega
theorem cut_blocks {t : Tree α} {key : ByteArray} : ∃ l, t.blocks.Perm (l ++ (t.cut key).blocks) ∧ l.length = if t.has key = true then 1 else 0 := by
  induction t with
  | nil => exact ⟨[], by simp [cut], by simp [has]⟩
  | node b k v h l r il ir =>
    unfold cut has
    split
    · obtain ⟨m, hm, hl⟩ := il
      refine ⟨m, perm_of_count fun a => ?_, hl⟩
      have c1 := List.perm_iff_count.1 hm a
      have c2 := List.perm_iff_count.1 (even_perm (node b k v h (l.cut key) r)) a
      simp only [blocks, List.count_cons, List.count_append] at c1 c2 ⊢
      omega
    · split
      · refine ⟨[b], ?_, by simp⟩
        split
        · rename_i hn
          rw [least_none hn]
          simp [blocks]
        · rename_i b2 k2 v2 h2 hn
          refine perm_of_count fun a => ?_
          have c1 := List.perm_iff_count.1 (least_blocks hn) a
          have c2 := List.perm_iff_count.1 (even_perm (node b2 k2 v2 h2 l r.rest)) a
          simp only [blocks, List.count_cons, List.count_append, List.count_nil] at c1 c2 ⊢
          omega
      · obtain ⟨m, hm, hl⟩ := ir
        refine ⟨m, perm_of_count fun a => ?_, hl⟩
        have c1 := List.perm_iff_count.1 hm a
        have c2 := List.perm_iff_count.1 (even_perm (node b k v h l (r.cut key))) a
        simp only [blocks, List.count_cons, List.count_append] at c1 c2 ⊢
        omega
theorem set_mem {t : Tree α} {key : ByteArray} {x : α} {nb y : Nat} (h : y ∈ (t.set key x nb).blocks) : y = nb ∨ y ∈ t.blocks := by
  have := (set_blocks (t := t) (key := key) (x := x) (nb := nb)).mem_iff.1 h
  split at this
  · exact .inr this
  · exact List.mem_cons.1 this
theorem set_nodup {t : Tree α} {key : ByteArray} {x : α} {nb : Nat} (h : t.blocks.Nodup) (hb : nb ∉ t.blocks) : (t.set key x nb).blocks.Nodup := by
  refine (set_blocks (t := t) (key := key) (x := x) (nb := nb)).nodup_iff.2 ?_
  split
  · exact h
  · exact List.nodup_cons.2 ⟨hb, h⟩
theorem set_size {t : Tree α} {key : ByteArray} {x : α} {nb : Nat} : (t.set key x nb).size = if t.has key = true then t.size else t.size + 1 := by
  rw [← size_blocks, (set_blocks (t := t) (key := key) (x := x) (nb := nb)).length_eq]
  split <;> simp [size_blocks]
theorem cut_mem {t : Tree α} {key : ByteArray} {y : Nat} (h : y ∈ (t.cut key).blocks) : y ∈ t.blocks := by
  obtain ⟨l, hl, _⟩ := cut_blocks (t := t) (key := key)
  exact hl.mem_iff.2 (List.mem_append.2 (.inr h))
theorem cut_nodup {t : Tree α} {key : ByteArray} (h : t.blocks.Nodup) : (t.cut key).blocks.Nodup := by
  obtain ⟨l, hl, _⟩ := cut_blocks (t := t) (key := key)
  exact (List.nodup_append.1 (hl.nodup_iff.1 h)).2.1
theorem cut_size {t : Tree α} {key : ByteArray} : t.size = (t.cut key).size + if t.has key = true then 1 else 0 := by
  obtain ⟨l, hl, hn⟩ := cut_blocks (t := t) (key := key)
  rw [← size_blocks, ← size_blocks, hl.length_eq, List.length_append, hn]
  omega
theorem size_pos {t : Tree α} {key : ByteArray} (h : t.has key = true) : 0 < t.size := by
  cases t with
  | nil => simp [has] at h
  | node b k v hh l r => simp only [size]; omega
theorem nd_mk {b : Nat} {k : ByteArray} {v : α} {h : Int} {l r : Tree α} (h1 : b ∉ l.blocks) (h2 : b ∉ r.blocks) (h3 : l.blocks.Nodup) (h4 : r.blocks.Nodup) (h5 : ∀ x ∈ l.blocks, x ∉ r.blocks) : (node b k v h l r).blocks.Nodup := by
  simp only [blocks, List.nodup_cons, List.nodup_append, List.mem_append, not_or]
  exact ⟨⟨h1, h2⟩, h3, h4, fun x hx y hy e => h5 x hx (e ▸ hy)⟩
theorem rest_node (b b2 : Nat) (k k2 : ByteArray) (v v2 : α) (h h2 : Int) (l2 r2 r : Tree α) : (node b k v h (node b2 k2 v2 h2 l2 r2) r).rest = even (node b k v h (node b2 k2 v2 h2 l2 r2).rest r) := rfl
theorem least_node (b b2 : Nat) (k k2 : ByteArray) (v v2 : α) (h h2 : Int) (l2 r2 r : Tree α) : (node b k v h (node b2 k2 v2 h2 l2 r2) r).least = (node b2 k2 v2 h2 l2 r2).least := rfl
theorem least_mem {t : Tree α} {b : Nat} {k : ByteArray} {v : α} {h : Int} (hl : t.least = some (b, k, v, h)) : b ∈ t.blocks := (least_blocks hl).mem_iff.2 (by simp)
theorem rest_mem {t : Tree α} {b : Nat} {k : ByteArray} {v : α} {h : Int} (hl : t.least = some (b, k, v, h)) {x : Nat} (hx : x ∈ t.rest.blocks) : x ∈ t.blocks := (least_blocks hl).mem_iff.2 (by simp [hx])
theorem rest_nodup {t : Tree α} {b : Nat} {k : ByteArray} {v : α} {h : Int} (hl : t.least = some (b, k, v, h)) (hn : t.blocks.Nodup) : b ∉ t.rest.blocks ∧ t.rest.blocks.Nodup := List.nodup_cons.1 ((least_blocks hl).nodup_iff.1 hn)
theorem rest_size {t : Tree α} {b : Nat} {k : ByteArray} {v : α} {h : Int} (hl : t.least = some (b, k, v, h)) : t.size = t.rest.size + 1 := by
  rw [← size_blocks, (least_blocks hl).length_eq, List.length_cons, size_blocks]
end Tree
end Go.Proofs.Ytdelbidaclddgaa.Lat
