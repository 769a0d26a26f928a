/- Contracts of small functions of package json: the comparison of names, the search among fields. The order of names: laws of compareBytes, lessB, sameB; fields in order. Plain. -/
import Derived.Test.YtkdeleafgailhaaGreatDoorN2
import Derived.Test.YtkdeleafgailhaaGreatDoorN3
import Derived.WalkKit
import Derived.BigCall
import Derived.Outline
section
set_option linter.unusedVariables false
set_option linter.unusedSimpArgs false
namespace Go.Proofs.YtkdeleafgailhaaGreatDoor
open Go Go.RowKit Go.Proofs.YtkdeleafgailhaaGreatDoorW.PrintWords

set_option maxHeartbeats 1000000 in
theorem cmp_any (f : JF) (n : ByteArray) (w : World) (cs : List Value) (hK : kF.K w f cs) :
    Calls Tryz.prog 70 #[.agg cs.toArray, .string n] w fun e w' => e = .returned (.int .i64 (Lib.compareBytes f.name.data.toList n.data.toList)) ∧ Below w.heap.size w w' := by
  obtain ⟨A, c, B, d, rfl, _, _, _, _⟩ := kF_open hK
  clear hK
  unfold JV.cells
  go_enter Tryz.func70, Tryz.ntmps70
  go_wp2_with (go_at_call 71; refine (Tryz.strings_Compare _ _ _).mono ?_; rintro e w' ⟨rfl, rfl⟩)
  go_ret
  exact ⟨rfl, (Below.refl _ _).alloc (Nat.le_refl _) _⟩

/-- The search among fields in order. p: how many are less. -/
structure Part (out : List JF) (name : ByteArray) (p : Nat) : Prop where
  le : p ≤ out.length
  less : ∀ k x, out[k]? = some x → k < p → lessB x.name name = true
  not : ∀ k x, out[k]? = some x → p ≤ k → lessB x.name name = false
  
set_option maxRecDepth 100000 in
set_option maxHeartbeats 2000000 in
theorem bsearch_any (out : List JF) (name : ByteArray) (w : World) (A : Option Addr) (n c p : Nat) (hC : kF.C w A n out) (hP : Part out name p) (hn40 : n ≤ 1099511627776) :
    Calls Tryz.prog 69 #[.slice A n c, .string name, .func (.func 70) #[] #[]] w fun e w' => e = .returned (.tuple #[.int .i64 p, .bool ((out[p]?).any (fun f => sameB f.name name))]) ∧ Below w.heap.size w w' := by
  have hn : out.length = n := hC.1
  have hle := hP.le
  rw [hn] at hle
  replace hn := Aside0.mk hn
  go_enter Tryz.func69, Tryz.ntmps69
  go_wp2_with fail
  go_loopw [9, 10] (fun i j wr => ∃ a b : Nat, i = .int .i64 a ∧ j = .int .i64 b ∧ a ≤ p ∧ p ≤ b ∧ b ≤ n ∧ Below w.heap.size w wr) (fun i j _ => (intOf j).toNat - (intOf i).toNat)
  case atStart => exact ⟨0, n, rfl, rfl, by omega, by omega, by omega, Below.refl _ _⟩
  case round =>
    obtain ⟨a, b, rfl, rfl, ha, hb, hbn, hB⟩ := hrel
    by_cases hab : a < b
    · obtain ⟨h, hh⟩ : ∃ h : Nat, ((a : Int) + (b : Int)) / 2 = (h : Int) := ⟨(a + b) / 2, by omega⟩
      have hhn : h < n := by omega
      have hah : a ≤ h := by omega
      have hhb : h < b := by omega
      obtain ⟨ad, x, A6, c6, A7, c7, rfl, hx, hcs, l6, g6, l7, g7⟩ := at_F (Kd.C_below hC hB) h hhn
      have hK := kF_mkK l6 g6 l7 g7
      unfold JV.cells at hcs hK
      obtain ⟨q0, q1, q2, q3, q4, q5, q6, q7, q8, _⟩ := hcs
      replace hx := Aside0.mk hx
      go_wp2_with (go_at_call 70; refine (cmp_any x name _ _ hK).mono ?_; rintro e w' ⟨rfl, hb1⟩)
      · have hlt : Lib.compareBytes x.name.data.toList name.data.toList < 0 := by assumption
        go_roundw
        case rel =>
          refine ⟨h + 1, b, by go_num, rfl, ?_, hb, hbn, hB.trans (hb1.mono hB.size)⟩
          rcases Nat.lt_or_ge h p with hlp | hlp
          · omega
          · have := hP.not h x hx.out hlp
            unfold lessB at this
            simp at this
            omega
        case measure => simp [intOf]; omega
      · have hge : 0 ≤ Lib.compareBytes x.name.data.toList name.data.toList := by assumption
        go_roundw
        case rel =>
          refine ⟨a, h, rfl, rfl, ha, ?_, by omega, hB.trans (hb1.mono hB.size)⟩
          rcases Nat.lt_or_ge h p with hlp | hlp
          · have := hP.less h x hx.out hlp
            unfold lessB at this
            simp at this
            omega
          · exact hlp
        case measure => simp [intOf]; omega
    · obtain rfl : a = p := by omega
      obtain rfl : b = a := by omega
      clear ha hb hab
      by_cases hpn : b < n
      · obtain ⟨ad, x, A6, c6, A7, c7, rfl, hx, hcs, l6, g6, l7, g7⟩ := at_F (Kd.C_below hC hB) b hpn
        have hK := kF_mkK l6 g6 l7 g7
        unfold JV.cells at hcs hK
        obtain ⟨q0, q1, q2, q3, q4, q5, q6, q7, q8, _⟩ := hcs
        replace hx := Aside0.mk hx
        clear hC hP
        go_wp2_with (go_at_call 70; refine (cmp_any x name _ _ hK).mono ?_; rintro e w' ⟨rfl, hb1⟩)
        go_ret2
        exact ⟨by rw [hx.out]; simp [sameB, Option.any]; rfl, hB.trans (hb1.mono hB.size)⟩
      · have hnone : out[b]? = none := by rw [List.getElem?_eq_none_iff, hn.out]; omega
        replace hnone := Aside0.mk hnone
        clear hC hP
        go_wp2_with fail
        go_ret2
        exact ⟨by rw [hnone.out]; simp, hB⟩
end Go.Proofs.YtkdeleafgailhaaGreatDoor
end
section
set_option linter.unusedVariables false
namespace Go.Proofs.YtkdeleafgailhaaGreatDoor
open Go

theorem cmp_self : ∀ (a : List UInt8), Lib.compareBytes a a = 0
  | [] => rfl
  | a :: as1 => by
    unfold Lib.compareBytes
    rw [if_neg (UInt8.lt_irrefl _), if_neg (UInt8.lt_irrefl _)]
    exact cmp_self as1
theorem cmp_zero : ∀ (a b : List UInt8), Lib.compareBytes a b = 0 → a = b
  | [], [], _ => rfl
  | [], _ :: _, h => by simp [Lib.compareBytes] at h
  | _ :: _, [], h => by simp [Lib.compareBytes] at h
  | a :: as1, b :: bs1, h => by
    unfold Lib.compareBytes at h
    split at h
    · simp at h
    · split at h
      · simp at h
      · rename_i h1 h2
        have : a = b := by
          have h1' : ¬ a.toNat < b.toNat := h1
          have h2' : ¬ b.toNat < a.toNat := h2
          exact UInt8.toNat_inj.1 (by omega)
        rw [this, cmp_zero as1 bs1 h]
theorem cmp_flip : ∀ (a b : List UInt8), Lib.compareBytes a b = - Lib.compareBytes b a
  | [], [] => rfl
  | [], _ :: _ => rfl
  | _ :: _, [] => rfl
  | a :: as1, b :: bs1 => by
    unfold Lib.compareBytes
    by_cases h1 : a < b
    · have h2 : ¬ b < a := by
        have h1' : a.toNat < b.toNat := h1
        intro h2; have h2' : b.toNat < a.toNat := h2; omega
      rw [if_pos h1, if_neg h2, if_pos h1]
    · by_cases h2 : b < a
      · rw [if_neg h1, if_pos h2, if_pos h2]; rfl
      · rw [if_neg h1, if_neg h2, if_neg h2, if_neg h1]
        exact cmp_flip as1 bs1
theorem cmp_trans : ∀ (a b c : List UInt8), Lib.compareBytes a b < 0 → Lib.compareBytes b c < 0 → Lib.compareBytes a c < 0
  | [], [], _, h, _ => by simp [Lib.compareBytes] at h
  | [], _ :: _, [], _, h => by simp [Lib.compareBytes] at h
  | [], _ :: _, _ :: _, _, _ => by simp [Lib.compareBytes]
  | _ :: _, [], _, h, _ => by simp [Lib.compareBytes] at h
  | _ :: _, _ :: _, [], _, h => by simp [Lib.compareBytes] at h
  | a :: as1, b :: bs1, c :: cs1, h, h' => by
    unfold Lib.compareBytes at h h' ⊢
    have e1 : ∀ {x y : UInt8}, x < y ↔ x.toNat < y.toNat := Iff.rfl
    simp only [e1] at h h' ⊢
    by_cases h1 : a.toNat < b.toNat
    · by_cases h2 : b.toNat < c.toNat
      · rw [if_pos (by omega)]; decide
      · rw [if_neg h2] at h'
        by_cases h3 : c.toNat < b.toNat
        · rw [if_pos h3] at h'; simp at h'
        · rw [if_pos (by omega)]; decide
    · rw [if_neg h1] at h
      by_cases h2 : b.toNat < a.toNat
      · rw [if_pos h2] at h; simp at h
      · rw [if_neg h2] at h
        have hab : a.toNat = b.toNat := by omega
        by_cases h3 : b.toNat < c.toNat
        · rw [if_pos (by omega)]; decide
        · rw [if_neg h3] at h'
          by_cases h4 : c.toNat < b.toNat
          · rw [if_pos h4] at h'; simp at h'
          · rw [if_neg h4] at h'
            rw [if_neg (by omega), if_neg (by omega)]
            exact cmp_trans as1 bs1 cs1 h h'
theorem lessB_iff {a b : ByteArray} : lessB a b = true ↔ Lib.compareBytes a.data.toList b.data.toList < 0 := by unfold lessB; simp
theorem sameB_iff {a b : ByteArray} : sameB a b = true ↔ a = b := by
  unfold sameB
  simp only [decide_eq_true_eq]
  constructor
  · intro h
    exact ByteArray.ext (Array.toList_inj.1 (cmp_zero _ _ h))
  · rintro rfl; exact cmp_self _
theorem lessB_irrefl (a : ByteArray) : lessB a a = false := by
  cases h : lessB a a with
  | false => rfl
  | true => rw [lessB_iff, cmp_self] at h; omega
theorem lessB_trans {a b c : ByteArray} (h : lessB a b = true) (h' : lessB b c = true) : lessB a c = true := lessB_iff.2 (cmp_trans _ _ _ (lessB_iff.1 h) (lessB_iff.1 h'))
theorem lessB_total {a b : ByteArray} (h : lessB a b = false) (h' : a ≠ b) : lessB b a = true := by
  cases h2 : lessB b a with
  | true => rfl
  | false =>
    exfalso
    apply h'
    apply sameB_iff.1
    unfold sameB
    unfold lessB at h h2
    have := cmp_flip a.data.toList b.data.toList
    simp at h h2 ⊢
    omega

/-- Fields whose names rise. -/
def Rising (l : List JF) : Prop := l.Pairwise (fun a b => lessB a.name b.name = true)
theorem rising_nil : Rising [] := List.Pairwise.nil
theorem tw_len {α : Type} (p : α → Bool) : ∀ (l : List α), l.takeWhile p = l.take (l.takeWhile p).length ∧ l.dropWhile p = l.drop (l.takeWhile p).length
  | [] => by simp
  | a :: l => by
    by_cases h : p a
    · have := tw_len p l
      rw [List.takeWhile_cons_of_pos h, List.dropWhile_cons_of_pos h, List.length_cons, List.take_succ_cons, List.drop_succ_cons]
      exact ⟨by rw [← this.1], this.2⟩
    · rw [List.takeWhile_cons_of_neg h, List.dropWhile_cons_of_neg h]
      simp
/-- Where a name stands among rising fields. -/
def spot (out : List JF) (name : ByteArray) : Nat := (out.takeWhile (fun f => lessB f.name name)).length
theorem rising_part : ∀ {out : List JF}, Rising out → ∀ (name : ByteArray), Part out name (spot out name)
  | [], _, name => ⟨by simp [spot], fun k x hx => by simp at hx, fun k x hx => by simp at hx⟩
  | f :: fs, h, name => by
    have hp := rising_part (List.Pairwise.of_cons h) name
    by_cases hf : lessB f.name name = true
    · have hs : spot (f :: fs) name = spot fs name + 1 := by unfold spot; rw [List.takeWhile_cons_of_pos (by exact hf)]; rfl
      rw [hs]
      refine ⟨by have := hp.le; simp; omega, ?_, ?_⟩
      · intro k x hx hk
        cases k with
        | zero => simp at hx; rw [← hx]; exact hf
        | succ k => exact hp.less k x (by simpa using hx) (by omega)
      · intro k x hx hk
        cases k with
        | zero => omega
        | succ k => exact hp.not k x (by simpa using hx) (by omega)
    · have hs : spot (f :: fs) name = 0 := by unfold spot; rw [List.takeWhile_cons_of_neg (by exact hf)]; rfl
      rw [hs]
      refine ⟨Nat.zero_le _, fun k x _ hk => by omega, ?_⟩
      intro k x hx _
      cases k with
      | zero => simp at hx; rw [← hx]; simpa using hf
      | succ k =>
        have hx' : fs[k]? = some x := by simpa using hx
        have hm : x ∈ fs := List.mem_of_getElem? hx'
        have hfx := (List.pairwise_cons.1 h).1 x hm
        cases hxn : lessB x.name name with
        | false => rfl
        | true => exact absurd (lessB_trans hfx hxn) hf
/-- Whether the name is there: at its spot, or nowhere. -/
theorem any_spot {out : List JF} (h : Rising out) (name : ByteArray) : out.any (fun f => sameB f.name name) = (out[spot out name]?).any (fun f => sameB f.name name) := by
  have hP := rising_part h name
  cases hh : out.any (fun f => sameB f.name name) with
  | false =>
    cases hx : out[spot out name]? with
    | none => rfl
    | some x =>
      rw [List.any_eq_false] at hh
      have := hh x (List.mem_of_getElem? hx)
      simp only [Option.any_some]
      simpa using this
  | true =>
    rw [List.any_eq_true] at hh
    obtain ⟨f, hm, hf⟩ := hh
    obtain ⟨j, hj⟩ := List.getElem?_of_mem hm
    have hfn := sameB_iff.1 hf
    have hge : spot out name ≤ j := by
      rcases Nat.lt_or_ge j (spot out name) with hlt | hge
      · have := hP.less j f hj hlt
        rw [hfn, lessB_irrefl] at this
        cases this
      · exact hge
    have hlt : j < out.length := (List.getElem?_eq_some_iff.1 hj).1
    have hsl : spot out name < out.length := by omega
    have hx : out[spot out name]? = some out[spot out name] := List.getElem?_eq_getElem hsl
    rw [hx]
    rcases Nat.lt_or_ge (spot out name) j with hlt2 | hge2
    · have h1 := (List.pairwise_iff_getElem.1 h) (spot out name) j hsl hlt hlt2
      have h2 := hP.not _ _ hx (Nat.le_refl _)
      have h3 : out[j] = f := by rw [List.getElem?_eq_getElem hlt] at hj; exact Option.some.inj hj
      rw [h3, hfn] at h1
      rw [h1] at h2
      cases h2
    · have he : spot out name = j := by omega
      have h3 : out[spot out name]? = some f := by rw [he]; exact hj
      rw [hx] at h3
      injection h3 with h3
      rw [h3]
      simp only [Option.any_some]
      rw [hf]
theorem insF_spot {out : List JF} (h : Rising out) (name : ByteArray) (v : JV) : insF out name v = if (out[spot out name]?).any (fun f => sameB f.name name) = true then out else out.take (spot out name) ++ JF.mk name v :: out.drop (spot out name) := by
  unfold insF
  rw [any_spot h name]
  obtain ⟨h1, h2⟩ := tw_len (fun f : JF => lessB f.name name) out
  split
  · rfl
  · rw [h1, h2]; rfl
theorem rising_insF {out : List JF} (h : Rising out) (name : ByteArray) (v : JV) : Rising (insF out name v) := by
  rw [insF_spot h]
  have hP := rising_part h name
  split
  · exact h
  · rename_i hno
    unfold Rising
    rw [List.pairwise_append]
    refine ⟨List.Pairwise.sublist (List.take_sublist _ _) h, ?_, ?_⟩
    · rw [List.pairwise_cons]
      refine ⟨?_, List.Pairwise.sublist (List.drop_sublist _ _) h⟩
      intro f hf
      obtain ⟨j, hj⟩ := List.getElem?_of_mem hf
      rw [List.getElem?_drop] at hj
      have h1 := hP.not _ f hj (by omega)
      apply lessB_total h1
      intro he
      apply hno
      rw [← any_spot h name, List.any_eq_true]
      exact ⟨f, List.mem_of_getElem? hj, sameB_iff.2 he⟩
    · intro a ha b hb
      obtain ⟨i, hi⟩ := List.getElem?_of_mem ha
      rw [List.getElem?_take] at hi
      split at hi
      · rename_i hlt
        have h1 := hP.less i a hi hlt
        rcases List.mem_cons.1 hb with rfl | hb
        · exact h1
        · obtain ⟨j, hj⟩ := List.getElem?_of_mem hb
          rw [List.getElem?_drop] at hj
          have hi' := (List.getElem?_eq_some_iff.1 hi)
          have hj' := (List.getElem?_eq_some_iff.1 hj)
          have := (List.pairwise_iff_getElem.1 h) i (spot out name + j) hi'.1 hj'.1 (by omega)
          rw [hi'.2, hj'.2] at this
          exact this
      · cases hi
/-- normF as1 a fold. -/
theorem normF_app : ∀ (a b : List JF) (out : List JF), JV.normF (a ++ b) out = JV.normF b (JV.normF a out)
  | [], _, _ => rfl
  | .mk nm v :: a, b, out => by
    show JV.normF (.mk nm v :: (a ++ b)) out = _
    rw [JV.normF, JV.normF, normF_app a b]
theorem rising_normF : ∀ (l : List JF) (out : List JF), Rising out → Rising (JV.normF l out)
  | [], _, h => h
  | .mk nm v :: l, out, h => by rw [JV.normF]; exact rising_normF l _ (rising_insF h _ _)
theorem length_insF_le (out : List JF) (name : ByteArray) (v : JV) : (insF out name v).length ≤ out.length + 1 := by
  unfold insF
  split
  · omega
  · have := List.takeWhile_append_dropWhile (p := fun f : JF => lessB f.name name) (l := out)
    have h2 := congrArg List.length this
    rw [List.length_append] at h2
    rw [List.length_append, List.length_cons]
    omega
theorem length_normF_le : ∀ (l : List JF) (out : List JF), (JV.normF l out).length ≤ out.length + l.length
  | [], _ => by simp [JV.normF]
  | .mk nm v :: l, out => by
    rw [JV.normF]
    have := length_normF_le l (insF out (clean nm) v.norm)
    have := length_insF_le out (clean nm) v.norm
    simp; omega
theorem normL_map : ∀ (l : List JV), JV.normL l = l.map JV.norm
  | [] => rfl
  | x :: l => by rw [JV.normL, normL_map l]; rfl
end Go.Proofs.YtkdeleafgailhaaGreatDoor
end
