/- The law OrderRanges walked by hand; a seat's own text. -/
import Derived.Test.YthfaacheolhjnaaOrdMaps
import Derived.Test.YthfaacheolhjnaaPOrderRunsx1
import Derived.Deep.LoopGhost
import Derived.Deep.Cut
import Derived.Lib.Hide
import Derived.StillTailTactics
import Derived.Deep.QuietTactic
import Derived.BigQuiet
import Derived.Outline
import Derived.Deep.RegionWith
import Derived.WalkLawsBesides
namespace Go.Proofs.Ythfaacheolhjnaa.Ord
open Go.RowKit Go.Proofs.YthfaacheolhjnaaW.PrintWords
set_option linter.unusedVariables false
set_option linter.unusedSimpArgs false
/-! rows of texts: the call's own, read; 'Same' -/
theorem Mod.bel {W W' : World} (h : Ord.Mod W W' []) : Below W.heap.size W W' := h.below (fun k hk => by simp at hk) (Nat.le_refl _)
theorem own_lt' {W : World} {v : Value} {n : Nat} {xs : List Value} (h : W.ownsRow 0 9 1 v n xs) : ∀ y ∈ ownList v, y < W.heap.size := by
  intro y hy
  rcases h with ⟨h1, ⟨rfl, _⟩ | ⟨g, cap, cur, rfl, h3, h4, h5⟩⟩
  · simp [ownList] at hy
  · simp only [ownList, List.mem_singleton] at hy
    subst hy
    exact blk_lt h4
theorem own_R {W : World} {v : Value} {xs : List ByteArray} (h : W.ownsRow 0 9 1 v xs.length (pw_strs xs)) : Kd.string.R 9 W 0 (fun _ => True) v xs := Kd.R_of_own h (fun _ _ => trivial)
theorem R_own {W : World} {v : Value} {xs : List ByteArray} {ok : Nat → Prop} (h : Kd.string.R 9 W 0 ok v xs) : W.ownsRow 0 9 1 v xs.length (pw_strs xs) := Kd.own_of_R h
theorem own_C {W : World} {v : Value} {xs : List ByteArray} (h : W.ownsRow 0 9 1 v xs.length (pw_strs xs)) : ∃ A c, v = .slice A xs.length c ∧ xs.length ≤ c ∧ Kd.string.C W A xs.length xs := Kd.R_reads (own_R h)
theorem own_mod {W W' : World} {v : Value} {n : Nat} {xs : List Value} {fp : List Nat} (h : W.ownsRow 0 9 1 v n xs) (m : Mod W W' fp) (hd : ∀ y ∈ ownList v, y ∉ fp) : W'.ownsRow 0 9 1 v n xs := by
  rcases h with ⟨h1, h2 | ⟨g, cap, cur, rfl, h3, h4, h5⟩⟩
  · exact ⟨h1, .inl h2⟩
  · exact ⟨h1, .inr ⟨g, cap, cur, rfl, h3, (m.at_ h4 (hd g (by simp [ownList]))), h5⟩⟩
theorem Mod.of_drawn {W W' : World} (h : Drawn0 W W') : Mod W W' [] := by
  obtain ⟨⟨n, rfl⟩⟩ := h
  exact (Mod.refl _ _).drewN n
theorem same_l (l : List ByteArray) (hl : l.length ≤ 1000000000000) : ∀ (d i k : Nat), i + d = l.length → d < k → POrderRuns.dovecoteref03_Same.l0 k l l i = some true := by
  intro d
  induction d with
  | zero =>
    intro i k h hk
    obtain ⟨k, rfl⟩ : ∃ m, k = m + 1 := ⟨k - 1, by omega⟩
    simp only [POrderRuns.dovecoteref03_Same.l0]
    rw [if_neg (by omega)]
  | succ d ih =>
    intro i k h hk
    obtain ⟨k, rfl⟩ : ∃ m, k = m + 1 := ⟨k - 1, by omega⟩
    simp only [POrderRuns.dovecoteref03_Same.l0]
    have hw : wrap64 ((i : Int) + 1) = ((i + 1 : Nat) : Int) := by unfold wrap64; omega
    rw [if_pos (by omega), if_pos (by omega), if_pos (by omega), if_pos trivial, hw]
    exact ih (i + 1) k (by omega) (by omega)
theorem same_calls {W : World} {A B : Option Addr} {c1 c2 : Nat} {l : List ByteArray} (hl : l.length ≤ 1000000000000) (h1 : Kd.string.C W A l.length l) (g1 : l.length ≤ c1) (h2 : Kd.string.C W B l.length l) (g2 : l.length ≤ c2) :
    Calls Try.prog 16 #[.slice A l.length c1, .slice B l.length c2] W fun e W' => e = .returned (.bool true) ∧ Mod W W' [] := by
  refine (POrderRuns.dovecoteref03_Same.calls (l.length + 1) A c1 l B c2 l true W h1 g1 h2 g2 ?_).mono (fun e W' h => ⟨h.1, Mod.of_drawn h.2⟩)
  unfold POrderRuns.dovecoteref03_Same.f
  rw [if_pos rfl]
  exact same_l l hl l.length 0 _ (by omega) (by omega)
/-! the law OrderRanges -/
def fm (l : List ByteArray) : Nat → List (ByteArray × Int)
  | 0 => []
  | j + 1 => lset (fm l j) (rdOf ByteArray.empty l j) j
theorem fm_len (l : List ByteArray) : ∀ j, (fm l j).length ≤ j
  | 0 => Nat.le_refl _
  | j + 1 => by
    have := fm_len l j
    simp only [fm, lset_length]
    split <;> omega
theorem tl0 : (⟨#[]⟩ : ByteArray).toList = [] := by rw [ByteArray.toList_eq]
theorem lt_nil (k : ByteArray) : Tree.lt ⟨#[]⟩ k = true ∨ (⟨#[]⟩ : ByteArray).toList = k.toList := by
  rw [tl0]
  cases h : k.toList with
  | nil => exact .inr rfl
  | cons a b => left; simp [Tree.lt, tl0, h, Op.bytesLess]
theorem rangeL_all (L : List (ByteArray × Int)) : rangeL L ⟨#[]⟩ ⟨#[]⟩ = L.map Prod.fst := by
  rw [rangeL, List.filter_eq_self]
  intro k _
  exact decide_eq_true ⟨lt_nil k, .inl tl0⟩
theorem rangeL_parts (L : List (ByteArray × Int)) (mid : ByteArray) (hm : mid.toList ≠ []) (hs : Sorted L) : rangeL L ⟨#[]⟩ mid ++ rangeL L mid ⟨#[]⟩ = L.map Prod.fst := by
  induction L with
  | nil => rfl
  | cons p r ih =>
    obtain ⟨k, v⟩ := p
    have hc := List.pairwise_cons.1 hs
    have e := ih hc.2
    by_cases h : Tree.lt k mid = true
    · have a1 : inR ⟨#[]⟩ mid k = true := decide_eq_true ⟨lt_nil k, .inr h⟩
      have a2 : inR mid ⟨#[]⟩ k = false := decide_eq_false (fun hh => hh.1.elim (fun z => by rw [lt_as h] at z; cases z) (fun z => lt_ne h z.symm))
      simp only [rangeL, List.map_cons, List.filter_cons, a1, a2, if_true, Bool.false_eq_true, if_false, List.cons_append]
      exact congrArg (k :: ·) e
    · have hge : Tree.lt mid k = true ∨ mid.toList = k.toList := by
        by_cases e2 : k.toList = mid.toList
        · exact .inr e2.symm
        · exact .inl (lt_tot (by simpa using h) e2)
      have a1 : inR ⟨#[]⟩ mid k = false := decide_eq_false (fun hh => hh.2.elim hm h)
      have a2 : inR mid ⟨#[]⟩ k = true := decide_eq_true ⟨hge, .inl tl0⟩
      have e0 : rangeL r ⟨#[]⟩ mid = [] := rangeL_none (fun p hp => decide_eq_false (fun hh => hh.2.elim hm (fun z => by
        have h1 : Tree.lt mid p.1 = true := le_lt (by simpa using h) (hc.1 p hp)
        rw [lt_as h1] at z; cases z)))
      rw [e0, List.nil_append] at e
      have e1 : rangeL ((k, v) :: r) ⟨#[]⟩ mid = [] := by
        have : rangeL ((k, v) :: r) ⟨#[]⟩ mid = rangeL r ⟨#[]⟩ mid := by simp only [rangeL, List.map_cons, List.filter_cons, a1, Bool.false_eq_true, if_false]
        rw [this, e0]
      rw [e1, List.nil_append]
      simp only [rangeL, List.map_cons, List.filter_cons, a2, if_true]
      exact congrArg (k :: ·) e
theorem own_own' (v : Value) : ∀ y, v.ownBlock = some y → y ∈ ownList v := by
  intro y hy
  unfold Value.ownBlock at hy
  split at hy
  · simp only [Option.some.injEq] at hy
    simp [ownList, hy]
  · cases hy
theorem C_own {W : World} {A : Option Addr} {c : Nat} {xs : List ByteArray} (h : W.ownsRow 0 9 1 (.slice A xs.length c) xs.length (pw_strs xs)) : Kd.string.C W A xs.length xs := (Kd.R_reads' (own_R h)).2.2
def dovecotelaw08_OrderRanges.f (k : Nat) (l : List ByteArray) (a1 : ByteArray) (a2 : Int) : Option Bool := some true
def LawP (w : World) (e : Ending) (w' : World) : Prop := e = .returned (.bool true) ∧ Mod w w' []
set_option maxHeartbeats 4000000 in
theorem ranges_calls (A : Option Addr) (c : Nat) (l : List ByteArray) (mid : ByteArray) (lim : Int) (w : World) (hr : Kd.string.C w A l.length l) (hc : l.length ≤ c) :
    Calls Try.prog 6 #[.slice A l.length c, .string mid, .int .i64 lim] w (LawP w) := by
  have HR := Lib.hid (And.intro hr hc)
  clear hr hc
  go_enter Try.func6, Try.ntmps6
  go_wp2_with fail
  refine awake_calls.mono ?_
  rintro e W1 ⟨rfl, m1⟩
  have H1 := Lib.hid m1
  clear m1
  by_cases c1 : (l.length : Int) > 300
  · go_wp2
    go_ret
    exact ⟨rfl, H1.out⟩
  by_cases c2 : mid.toList = []
  · have c2' : (mid.toList == []) = true := by rw [c2]; rfl
    clear c2
    go_wp2
    go_ret
    exact ⟨rfl, H1.out⟩
  have HM := Lib.hid c2
  have HL := Lib.hid c1
  have c2' : mid.toList.isEmpty = false := by cases hz : mid.toList with | nil => exact absurd hz c2 | cons _ _ => rfl
  clear c2
  go_wp2_with fail
  refine mnew.mono ?_
  rintro e W2 ⟨rfl, f2, m2⟩
  generalize hg : W1.heap.size = g at f2 ⊢
  have H2 : Hid (MapF W2 g [] [g] ∧ Mod w W2 [] ∧ w.heap.size ≤ g) := Lib.hid ⟨f2, H1.out.trans m2 (by simp), by rw [← hg]; exact H1.out.size⟩
  clear f2 m2 hg
  go_wp2_with fail
  have n300 : l.length ≤ 300 := by have := HL.out; omega
  have N3 := Lib.hid n300
  clear n300
  go_loopg [24] l.length (fun k i wr => ∃ j : Nat, j ≤ l.length ∧ k = l.length - j ∧ i = .int .i64 j ∧ ∃ fp, MapF wr g (fm l j) fp ∧ Mod w wr [] ∧ ∀ y ∈ fp, w.heap.size ≤ y)
  case atStart => exact ⟨0, Nat.zero_le _, rfl, rfl, [g], H2.out.1, H2.out.2.1, fun y hy => by rw [List.mem_singleton.1 hy]; exact H2.out.2.2⟩
  case round =>
    obtain ⟨j, hj, rfl, rfl, fp, hm⟩ := hrel
    have HJ := Lib.hid hm
    clear hm
    by_cases hjl : j < l.length
    · obtain ⟨ad, rfl, hcl⟩ := Kd.at_string (Kd.C_below HR.out.1 HJ.out.2.1.bel) j (by omega) (by omega)
      rw [Int.toNat_natCast] at hcl
      have hjz : (j : Int) < (l.length : Int) := by omega
      have hw : IntKind.i64.wrap ((j : Int) + 1) = ((j + 1 : Nat) : Int) := by have := N3.out; unfold IntKind.wrap; simp [IntKind.signed, IntKind.bits]; omega
      go_wp2_with fail
      refine (mset (rdOf ByteArray.empty l j) j HJ.out.1 (by have := N3.out; have := fm_len l j; omega)).mono ?_
      rintro e W3 ⟨rfl, fp', f3, m3, b3⟩
      have H3 : Hid (MapF W3 g (fm l (j + 1)) fp' ∧ Mod w W3 [] ∧ ∀ y ∈ fp', w.heap.size ≤ y) := Lib.hid ⟨f3, HJ.out.2.1.trans m3 (fun y hy => .inr (HJ.out.2.2 y hy)), fun y hy => by
        rcases b3 y hy with h | h
        · exact HJ.out.2.2 y h
        · have := HJ.out.2.1.size; omega⟩
      clear f3 m3 b3 hcl
      go_wp2
      go_roundg (l.length - (j + 1))
      case measure => omega
      case rel => exact ⟨j + 1, by omega, rfl, by rfl, fp', H3.out⟩
    · have hjz : ¬ (j : Int) < (l.length : Int) := by omega
      have hje : j = l.length := by omega
      subst hje
      clear hjl hj
      go_wp2_with fail
      have hln : (fm l l.length).length ≤ 300 := Nat.le_trans (fm_len l l.length) N3.out
      have hso := HJ.out.1.sorted
      generalize hL : fm l l.length = L at hln hso HJ
      have HF := Lib.hid (And.intro hln hso)
      clear hln hso hL
      have ek : ∀ lo hi, (rangeL L lo hi).take (1000 : Int).toNat = rangeL L lo hi := fun lo hi => List.take_of_length_le (by
        have h1 : (rangeL L lo hi).length ≤ L.length := by unfold rangeL; exact Nat.le_trans (List.length_filter_le _ _) (by simp)
        have := HF.out.1
        have e : (1000 : Int).toNat = 1000 := rfl
        omega)
      have EK := Lib.hid ek
      clear ek
      obtain ⟨K, hKe⟩ : ∃ K, K = L.map Prod.fst := ⟨_, rfl⟩
      have hK : Hid (K.length ≤ 300) := Lib.hid (by rw [hKe, List.length_map]; exact HF.out.1)
      have HKE := Lib.hid hKe
      clear hKe
      refine (mkeys ⟨#[]⟩ ⟨#[]⟩ 1000 HJ.out.1 (by have := HF.out.1; omega)).mono ?_
      rw [EK.out, rangeL_all, ← HKE.out]
      rintro e W5 ⟨v5, rfl, o5, b5, m5⟩
      obtain ⟨A5, c5, rfl, g5, r5⟩ := own_C o5
      have H5 := Lib.hid (And.intro o5 (And.intro (own_lt' o5) (And.intro g5 (And.intro r5 (And.intro (HJ.out.1.mod m5 (by simp)) (HJ.out.2.1.trans m5 (by simp)))))))
      clear o5 b5 m5 g5 r5
      go_wp2_with fail
      refine (mkeys ⟨#[]⟩ mid 1000 H5.out.2.2.2.2.1 (by have := HF.out.1; omega)).mono ?_
      rw [EK.out]
      rintro e W6 ⟨v6, rfl, o6, b6, m6⟩
      have H6 := Lib.hid (And.intro o6 (And.intro b6 (And.intro (H5.out.2.2.2.2.1.mod m6 (by simp)) (And.intro (H5.out.2.2.2.2.2.trans m6 (by simp)) m6))))
      clear o6 b6 m6
      go_wp2_with fail
      refine (mkeys mid ⟨#[]⟩ 1000 H6.out.2.2.1 (by have := HF.out.1; omega)).mono ?_
      rw [EK.out]
      rintro e W7 ⟨v7, rfl, o7, b7, m7⟩
      obtain ⟨A7, c7, rfl, g7, r7⟩ := own_C o7
      have o6 := own_mod H6.out.1 m7 (by simp)
      have o5 := own_mod (own_mod H5.out.1 H6.out.2.2.2.2 (by simp)) m7 (by simp)
      have hp := rangeL_parts L mid HM.out HF.out.2
      rw [← HKE.out] at hp
      have hlen : (rangeL L ⟨#[]⟩ mid).length + (rangeL L mid ⟨#[]⟩).length ≤ 300 := by
        have e := congrArg List.length hp
        rw [List.length_append] at e
        have := hK.out; omega
      have H7 := Lib.hid (And.intro o5 (And.intro (H6.out.2.2.1.mod m7 (by simp)) (And.intro (H6.out.2.2.2.1.trans m7 (by simp)) (And.intro (own_R o6) (And.intro r7 (And.intro hp hlen))))))
      clear o5 o6 o7 b7 m7 g7 r7 hp hlen
      go_wp2_with (first | (at_builtin; refine Kd.R_append_rows Kd.string (w0 := W7) 0 rfl _ _ 38 9 (.string ByteArray.empty) 16 rfl Try.underlying38 info9 rfl (by decide) (by decide) v6 (rangeL L ⟨#[]⟩ mid) (rangeL L mid ⟨#[]⟩) A7 _ c7 (fun _ => True) (fun _ => False) rfl rfl H7.out.2.2.2.1 H7.out.2.2.2.2.1 (fun x cs h => h) (fun k h => h.elim) (fun k _ => trivial) ?b1 (Nat.zero_le _) ?b2 ?_) | fail)
      case b1 => exact Below.refl _ _
      case b2 => have := H7.out.2.2.2.2.2.2; omega
      intro v8 W8 o8 _ g8 hat8
      rw [H7.out.2.2.2.2.2.1] at o8
      obtain ⟨A8, c8, rfl, q8, r8⟩ := Kd.R_reads o8
      have m8 := mod_grown (Mod.refl W7 (ownList v6)) g8 (own_own' v6)
      have hd5 : ∀ y ∈ ownList (.slice A5 K.length c5), y ∉ ownList v6 := fun y hy hz => by
        have := H5.out.2.1 y hy; have := H6.out.2.1 y hz; omega
      have o5 := own_mod H7.out.1 m8 hd5
      have r5 := (own_C o5)
      have H8 : Hid (W8.ownsRow 0 9 1 (.slice A5 K.length c5) K.length (pw_strs K) ∧ Kd.string.C W8 A8 K.length K ∧ K.length ≤ c8 ∧ MapF W8 g L fp ∧ Mod w W8 []) := Lib.hid ⟨o5, r8, q8, H7.out.2.1.mod m8 (fun y hy hz => by
        have := H5.out.2.2.2.2.1.lt y hy; have := H6.out.2.1 y hz; omega), H7.out.2.2.1.trans m8 (fun y hz => by
        have := H5.out.2.2.2.2.2.size; have := H6.out.2.1 y hz; omega)⟩
      clear o8 g8 hat8 m8 hd5 o5 r5 q8 r8
      go_wp2_with fail
      refine (same_calls (by have := hK.out; omega) H8.out.2.1 H8.out.2.2.1 (C_own H8.out.1) H5.out.2.2.1).mono ?_
      rintro e W9 ⟨rfl, m9⟩
      have H9 : Hid (W9.ownsRow 0 9 1 (.slice A5 K.length c5) K.length (pw_strs K) ∧ MapF W9 g L fp ∧ Mod w W9 []) := Lib.hid ⟨own_mod H8.out.1 m9 (by simp), H8.out.2.2.2.1.mod m9 (by simp), H8.out.2.2.2.2.trans m9 (by simp)⟩
      clear m9
      have hk5 := H5.out.2.2.1
      go_upto_region 15 with fail
      obtain ⟨T, hT⟩ : ∃ T, T = K.take (min lim.toNat K.length) := ⟨_, rfl⟩
      have hTl : T.length = min lim.toNat K.length := by rw [hT, List.length_take]; omega
      have hT2 : (rangeL L ⟨#[]⟩ ⟨#[]⟩).take lim.toNat = T := by
        rw [rangeL_all, ← HKE.out, hT]
        by_cases hh : lim.toNat ≤ K.length
        · rw [Nat.min_eq_left hh]
        · rw [Nat.min_eq_right (by omega), List.take_of_length_le (by omega), List.take_of_length_le (by omega)]
      have hif : (if (K.length : Int) < (if lim < 0 then 0 else lim) then (K.length : Int) else (if lim < 0 then 0 else lim)) = (T.length : Int) := by
        rw [hTl]
        split <;> split <;> omega
      have hTK : T.length ≤ K.length := by omega
      have hTc : Kd.string.C W9 A5 T.length T := by rw [hT]; exact Kd.C_take (C_own H9.out.1) (by omega)
      rw [hif]
      generalize (if lim < 0 then (0 : Int) else lim) = mx at ⊢ hif
      have HT := Lib.hid (And.intro hT2 (And.intro hTK hTc))
      have ht5 : T.length ≤ c5 := by omega
      have ht5z : (T.length : Int) ≤ (c5 : Int) := by omega
      clear hT hTl hT2 hif hTK hTc
      go_region_with (first
        | (go_at_call 17
           refine (mkeys (W := W9.drew) ⟨#[]⟩ ⟨#[]⟩ lim (H9.out.2.1.mod ((Mod.refl W9 []).drew) (by simp)) (by have := HF.out.1; omega)).mono ?_
           rw [HT.out.1]
           rintro e W10 ⟨v10, rfl, o10, b10, m10⟩
           obtain ⟨A10, c10, rfl, g10, r10⟩ := own_C o10
           have H10 : Hid (Kd.string.C W10 A10 T.length T ∧ T.length ≤ c10 ∧ Kd.string.C W10 A5 T.length T ∧ Mod w W10 []) := Lib.hid ⟨r10, g10, Kd.C_below HT.out.2.2 (((Mod.refl W9 []).drew).trans m10 (by simp)).bel, (H9.out.2.2.trans ((Mod.refl W9 []).drew) (by simp)).trans m10 (by simp)⟩
           clear o10 b10 m10 g10 r10)
        | (go_at_call 16
           refine (same_calls (by have := hK.out; have := HT.out.2.1; omega) H10.out.1 H10.out.2.1 H10.out.2.2.1 ht5).mono ?_
           rintro e W11 ⟨rfl, m11⟩
           have H11 : Hid (Mod w W11 []) := Lib.hid (H10.out.2.2.2.trans m11 (by simp))
           clear m11))
      all_goals go_wp2
      all_goals go_ret
      all_goals exact ⟨rfl, H11.out⟩
theorem dovecotelaw08_OrderRanges.calls (k : Nat) (A0 : Option Addr) (c0 : Nat) (l0 : List ByteArray) (a1 : ByteArray) (a2 : Int) (r : Bool) (w : World) (hr0 : Kd.C Kd.string w A0 l0.length l0) (hc0 : l0.length ≤ c0) (h : dovecotelaw08_OrderRanges.f k l0 a1 a2 = some r) :
    Calls Try.prog 6 #[.slice A0 l0.length c0, .string a1, .int .i64 a2] w fun e w' => e = .returned (.bool r) ∧ Below w.heap.size w w' := by
  obtain rfl : true = r := Option.some.inj h
  exact (ranges_calls A0 c0 l0 a1 a2 w hr0 hc0).mono fun e w' ⟨h1, h2⟩ => ⟨h1, h2.bel⟩
end Go.Proofs.Ythfaacheolhjnaa.Ord
