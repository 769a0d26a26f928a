/- dec.numeral: its walk, label by label, the last one first. -/
import Derived.Test.YtkdeleafgailhaaGreatDoorN11
import Derived.BigQuiet
import Derived.Deep.QuietTactic
section
set_option linter.unusedVariables false
set_option linter.unusedSimpArgs false
namespace Go.Proofs.YtkdeleafgailhaaGreatDoor
open Go Go.RowKit Go.Proofs.YtkdeleafgailhaaGreatDoorW.PrintWords

/-- The function's body, within its scope. -/
noncomputable def numC : Code := match Tryz.f134.body with | some (.seq _ (.scope c)) => c | _ => .skip
/-- What numeral gives. -/
def NumGives (w : World) : Option (Bool × List Int × Int) → Ending → World → Prop
  | some (neg, bs, x), e, w' => e = .returned (.tuple #[.bool neg, .string (strOfNums bs), .int .i64 x, .bool true]) ∧ Below w.heap.size w w'
  | none, e, w' => e = .returned (.tuple #[.bool false, .string ⟨#[]⟩, .int .i64 0, .bool false]) ∧ Below w.heap.size w w'
/-- What a label asks: 0 behind, 1 none, 2 first, 3 fraction, 4 power, 5 end, 6 digit. -/
def NL (s : ByteArray) (fin : Option (Bool × List Int × Int)) (l i : Nat) (neg : Bool) (bs : List Int) (exp sign tens : Int) : Prop :=
  match l with
  | 0 => exp = 0 ∧ sign = 1 ∧ tens = 0 ∧ nBeh s i neg bs = fin
  | 1 => fin = none
  | 2 => exp = 0 ∧ sign = 1 ∧ tens = 0 ∧ i < s.size ∧ ∃ n, s.size < i + n ∧ nFst s n i neg bs = fin
  | 3 => sign = 1 ∧ tens = 0 ∧ i < s.size ∧ ∃ n, s.size < i + n ∧ nFrac s n i neg bs exp = fin
  | 4 => sign = 1 ∧ tens = 0 ∧ nPow s i neg bs exp = fin
  | 5 => nEnd s i neg bs exp sign tens = fin
  | 6 => isDg (byteAt s i) = true ∧ ∃ n, s.size < i + n ∧ nDig s n i neg bs exp sign tens = fin
  | _ => False
structure NB (s : ByteArray) (i : Nat) (bs : List Int) (exp sign tens : Int) : Prop where
  size : s.size ≤ 1048576
  i_le : i ≤ s.size
  len : bs.length ≤ i
  e0 : -(i : Int) ≤ exp
  e1 : exp ≤ 0
  sg : sign = 1 ∨ sign = -1
  t0 : 0 ≤ tens
  t1 : tens ≤ 1099511627776
def NJ (s : ByteArray) (w : World) (fin : Option (Bool × List Int × Int)) (l : Nat) (a : Act) (W : World) : Prop :=
  ∃ (i : Nat) (neg : Bool) (bs : List Int) (exp sign tens : Int) (v : Value), NA w neg exp sign tens v a ∧ NW s w i v bs W ∧ NB s i bs exp sign tens ∧ NL s fin l i neg bs exp sign tens
def nRank : Nat → Nat
  | 2 => 6 | 0 => 5 | 3 => 4 | 4 => 3 | 6 => 2 | 5 => 1 | _ => 0
def nIdx (w W : World) : Nat := match W.cell? ⟨w.heap.size + 1, 0, none⟩ with | some v => (intOf v).toNat | none => 0
def nMu (s : ByteArray) (w : World) (l : Nat) (W : World) : Nat := (s.size - nIdx w W) * 8 + nRank l
theorem NW.idx_eq {s : ByteArray} {w : World} {i : Nat} {v : Value} {bs : List Int} {W : World} (h : NW s w i v bs W) : nIdx w W = i := by
  unfold nIdx
  rw [cellAll h.idx 0]
  simp [intOf]
theorem nMu_eq {s : ByteArray} {w : World} {i : Nat} {v : Value} {bs : List Int} {W : World} (h : NW s w i v bs W) (l : Nat) : nMu s w l W = (s.size - i) * 8 + nRank l := by unfold nMu; rw [h.idx_eq]
def NPost (w : World) (fin : Option (Bool × List Int × Int)) : Exit → Act → World → Prop := bodyPost Tryz.prog Tryz.f134 (fun e w' => NumGives w fin e w')
/-- A label's part of the walk is done. -/
def NPass (s : ByteArray) (w : World) (fin : Option (Bool × List Int × Int)) (l : Nat) : Prop :=
  ∃ more, findLabel numC l = some (.seq .skip more) ∧ ∀ a W, NJ s w fin l a W → ∀ Jm : Nat → Act → World → Prop, (∀ l' a' W', NJ s w fin l' a' W' → nMu s w l' W' < nMu s w l W → Jm l' a' W') → more.wp Tryz.prog (jumps Jm (NPost w fin)) a W
/-- Falling into a label. -/
theorem NPass.fall {s : ByteArray} {w : World} {fin : Option (Bool × List Int × Int)} {l : Nat} (h : NPass s w fin l) {more : Code} (hf : findLabel numC l = some (.seq .skip more)) {a : Act} {W : World} (hJ : NJ s w fin l a W) {Jm : Nat → Act → World → Prop} {m : Nat} (hm : nMu s w l W ≤ m) (hj : ∀ l' a' W', NJ s w fin l' a' W' → nMu s w l' W' < m → Jm l' a' W') : more.wp Tryz.prog (jumps Jm (NPost w fin)) a W := by
  obtain ⟨more', hf', hp⟩ := h
  have e : more' = more := by
    rw [hf] at hf'
    injection hf' with hf'
    injection hf' with _ hf'
    exact hf'.symm
  subst e
  exact hp a W hJ Jm (fun l' a' W' h1 h2 => hj l' a' W' h1 (by omega))

set_option maxRecDepth 100000 in
set_option maxHeartbeats 4000000 in
theorem pass1 (s : ByteArray) (w : World) : NPass s w none 1 := by
  refine ⟨_, rfl, ?_⟩
  rintro a W ⟨i, neg, bs, exp, sign, tens, v, hA, hW, hB, hL⟩ Jm hj
  obtain ⟨u, rfl⟩ := hA.open_
  clear hA
  go_wp2_with fail
  simp only [jumps, NPost]
  refine bodyPost_ret (v := .tuple #[.bool false, .string ⟨#[]⟩, .int .i64 0, .bool false]) (by simp [results, Tryz.results134, go_sem]) rfl ⟨rfl, hW.low⟩

set_option maxRecDepth 100000 in
set_option maxHeartbeats 4000000 in
theorem pass5 (s : ByteArray) (w : World) (fin : Option (Bool × List Int × Int)) : NPass s w fin 5 := by
  refine ⟨_, rfl, ?_⟩
  rintro a W ⟨i, neg, bs, exp, sign, tens, v, hA, hW, hB, hL⟩ Jm hj
  have hL' : nEnd s i neg bs exp sign tens = fin := hL
  unfold nEnd at hL'
  have hc := cellAll hW.str
  have hc2 := cellAll hW.idx
  by_cases hi : i = s.size
  · have b1 : ((i : Int) == (s.size : Int)) = true := by simp; omega
    rw [if_pos hi] at hL'
    subst hL'
    have hcv : ∀ n, (convert 49 9 v).run Tryz.prog (W.drewN n) = .ok (.string (strOfNums bs)) (W.drewN n) := fun n => own_string (P := Tryz.prog) (w := W.drewN n) (n := bs.length) (e' := 5) (e := 5) (base := w.heap.size) Tryz.underlying49 Tryz.underlying5 Tryz.underlying9 hW.own
    obtain ⟨u, rfl⟩ := hA.open_
    have hsg := hB.sg
    have ht0 := hB.t0
    have ht1 := hB.t1
    have he0 := hB.e0
    have he1 := hB.e1
    have hsz := hB.size
    have hil := hB.i_le
    clear hA hL hB hj
    replace hi := Aside0.mk hi
    rcases hsg with rfl | rfl
    · go_wp2_with fail
      go_quiet (fail)
      go_wp2_with fail
      simp only [jumps, NPost]
      refine bodyPost_ret (v := .tuple #[.bool neg, .string (strOfNums bs), .int .i64 (exp + 1 * tens), .bool true]) (by simp [results, Tryz.results134, go_sem]) rfl ⟨rfl, pw_below_drewN hW.low _⟩
    · go_wp2_with fail
      go_quiet (fail)
      go_wp2_with fail
      simp only [jumps, NPost]
      refine bodyPost_ret (v := .tuple #[.bool neg, .string (strOfNums bs), .int .i64 (exp + -1 * tens), .bool true]) (by simp [results, Tryz.results134, go_sem]) rfl ⟨rfl, pw_below_drewN hW.low _⟩
  · rw [if_neg hi] at hL'
    subst hL'
    have b1 : ((i : Int) == (s.size : Int)) = false := by simp; omega
    obtain ⟨u, rfl⟩ := hA.open_
    clear hA hL hB hj
    go_wp2_with fail
    go_step3
    go_wp2_with fail
    simp only [jumps, NPost]
    refine bodyPost_ret (v := .tuple #[.bool false, .string ⟨#[]⟩, .int .i64 0, .bool false]) (by simp [results, Tryz.results134, go_sem]) rfl ⟨rfl, hW.low⟩

set_option maxRecDepth 100000 in
set_option maxHeartbeats 4000000 in
theorem pass6 (s : ByteArray) (w : World) (fin : Option (Bool × List Int × Int)) : NPass s w fin 6 := by
  refine ⟨_, rfl, ?_⟩
  rintro a W ⟨i, neg, bs, exp, sign, tens, v, hA, hW, hB, hL⟩ Jm hj
  have hsg := hB.sg
  have ht0 := hB.t0
  have ht1 := hB.t1
  have he0 := hB.e0
  have he1 := hB.e1
  have hsz := hB.size
  have hil := hB.i_le
  have hbl := hB.len
  have hj0 := Aside0.mk hj
  clear hj
  obtain ⟨u, rfl⟩ := hA.open_
  unfold nClo
  clear hA
  have hc := cellAll hW.str
  have hc2 := cellAll hW.idx
  have hf := frozenAll hW.idx
  obtain ⟨hdg, n, hn, hnd⟩ : isDg (byteAt s i) = true ∧ ∃ n, s.size < i + n ∧ nDig s n i neg bs exp sign tens = fin := hL
  obtain ⟨m, rfl⟩ : ∃ m, n = m + 1 := ⟨n - 1, by omega⟩
  have hstep : nDig s (m + 1) i neg bs exp sign tens = if isDg (byteAt s (i + 1)) = true then nDig s m (i + 1) neg bs exp sign (nFar (10 * tens + ((byteAt s i : Int) - 48))) else nEnd s (i + 1) neg bs exp sign (nFar (10 * tens + ((byteAt s i : Int) - 48))) := rfl
  rw [hstep] at hnd
  clear hstep
  obtain ⟨hd0, hd1, hil2⟩ := isDg_in hdg
  have hd2 : (48 : Int) ≤ (byteAt s i : Int) := by omega
  have hd3 : (byteAt s i : Int) ≤ 57 := by omega
  have hT0 : Aside0 (0 ≤ nFar (10 * tens + ((byteAt s i : Int) - 48))) := ⟨by unfold nFar; omega⟩
  have hT1 : Aside0 (nFar (10 * tens + ((byteAt s i : Int) - 48)) ≤ 1099511627776) := ⟨by unfold nFar; omega⟩
  replace hsg := Aside0.mk hsg
  cases hx : isDg (byteAt s (i + 1)) with
  | true =>
    rw [hx, if_pos rfl] at hnd
    replace hnd := Aside0.mk hnd
    go_wp2_with (first
      | (go_at_call 148; refine (at_n hW2 (by omega) (by omega)).mono ?_; rintro e w3 ⟨rfl, hW3, _⟩; have hc3 := cellAll hW3.str; have hd3 := cellAll hW3.idx; have hf3 := frozenAll hW3.idx)
      | (go_at_call 148; refine (at_n hW (by omega) (by omega)).mono ?_; rintro e w1 ⟨rfl, hW1, _⟩; have hc1 := cellAll hW1.str; have hd1 := cellAll hW1.idx; have hf1 := frozenAll hW1.idx; have hW2 := hW1.set_ (i + 1); rw [show (((i + 1 : Nat) : Int)) = (i : Int) + 1 by omega] at hW2)
      | (go_at_call 149; refine (isDigit_n _ _).mono ?_; rintro e w' ⟨rfl, hw⟩; rw [hw]; clear hw))
    go_step3
    exact hj0.out 6 _ _ ⟨i + 1, neg, bs, exp, sign, (nFar (10 * tens + ((byteAt s i : Int) - 48))), v, ⟨rfl, rfl, rfl, rfl, rfl, rfl, rfl, rfl, rfl, rfl⟩, hW3, ⟨hsz, by omega, by omega, by omega, he1, hsg.out, hT0.out, hT1.out⟩, ⟨hx, m, by omega, hnd.out⟩⟩ (by rw [nMu_eq hW3, nMu_eq hW]; simp only [nRank]; omega)
  | false =>
    rw [hx, if_neg (by simp)] at hnd
    replace hnd := Aside0.mk hnd
    go_wp2_with (first
      | (go_at_call 148; refine (at_n hW2 (by omega) (by omega)).mono ?_; rintro e w3 ⟨rfl, hW3, _⟩; have hc3 := cellAll hW3.str; have hd3 := cellAll hW3.idx; have hf3 := frozenAll hW3.idx)
      | (go_at_call 148; refine (at_n hW (by omega) (by omega)).mono ?_; rintro e w1 ⟨rfl, hW1, _⟩; have hc1 := cellAll hW1.str; have hd1 := cellAll hW1.idx; have hf1 := frozenAll hW1.idx; have hW2 := hW1.set_ (i + 1); rw [show (((i + 1 : Nat) : Int)) = (i : Int) + 1 by omega] at hW2)
      | (go_at_call 149; refine (isDigit_n _ _).mono ?_; rintro e w' ⟨rfl, hw⟩; rw [hw]; clear hw))
    rename_i K hK
    exact wp_label (hK _ _ ((pass5 s w fin).fall rfl ⟨i + 1, neg, bs, exp, sign, (nFar (10 * tens + ((byteAt s i : Int) - 48))), v, ⟨rfl, rfl, rfl, rfl, rfl, rfl, rfl, rfl, rfl, rfl⟩, hW3, ⟨hsz, by omega, by omega, by omega, he1, hsg.out, hT0.out, hT1.out⟩, hnd.out⟩ (by rw [nMu_eq hW3, nMu_eq hW]; simp only [nRank]; omega) hj0.out))

set_option maxRecDepth 100000 in
set_option maxHeartbeats 4000000 in
theorem pass4 (s : ByteArray) (w : World) (fin : Option (Bool × List Int × Int)) : NPass s w fin 4 := by
  refine ⟨_, rfl, ?_⟩
  rintro a W ⟨i, neg, bs, exp, sign, tens, v, hA, hW, hB, hL⟩ Jm hj
  have hsg := hB.sg
  have ht0 := hB.t0
  have ht1 := hB.t1
  have he0 := hB.e0
  have he1 := hB.e1
  have hsz := hB.size
  have hil := hB.i_le
  have hbl := hB.len
  have hj0 := Aside0.mk hj
  clear hj
  obtain ⟨u, rfl⟩ := hA.open_
  unfold nClo
  clear hA
  have hc := cellAll hW.str
  have hc2 := cellAll hW.idx
  have hf := frozenAll hW.idx
  obtain ⟨rfl, rfl, hnp⟩ : sign = 1 ∧ tens = 0 ∧ nPow s i neg bs exp = fin := hL
  unfold nPow at hnp
  clear hsg ht0 ht1
  by_cases c0 : ¬ (byteAt s i = 101 ∨ byteAt s i = 69)
  · rw [if_neg c0] at hnp
    have b1 : ((byteAt s i : Int) != 101) = true := by simp; omega
    have b2 : ((byteAt s i : Int) != 69) = true := by simp; omega
    clear c0
    replace hnp := Aside0.mk hnp
    go_wp2_with (first
      | (go_at_call 148; refine (at_n hW1 (by omega) (by omega)).mono ?_; rintro e w2 ⟨rfl, hW2, _⟩; have hc2 := cellAll hW2.str; have hd2 := cellAll hW2.idx; have hf2 := frozenAll hW2.idx)
      | (go_at_call 148; refine (at_n hW (by omega) (by omega)).mono ?_; rintro e w1 ⟨rfl, hW1, _⟩; have hc1 := cellAll hW1.str; have hd1 := cellAll hW1.idx; have hf1 := frozenAll hW1.idx))
    go_step3
    exact hj0.out 5 _ _ ⟨i, neg, bs, exp, 1, 0, v, ⟨rfl, rfl, rfl, rfl, rfl, rfl, rfl, rfl, rfl, rfl⟩, hW2, ⟨hsz, by omega, hbl, he0, he1, .inl rfl, by omega, by omega⟩, hnp.out⟩ (by rw [nMu_eq hW2, nMu_eq hW]; simp only [nRank]; omega)
  replace c0 : byteAt s i = 101 ∨ byteAt s i = 69 := Decidable.not_not.1 c0
  rw [if_pos c0] at hnp
  have hin : i < s.size := byteAt_in (by omega)
  by_cases c1 : byteAt s i = 101
  · have b1 : ((byteAt s i : Int) != 101) = false := by simp; omega
    clear c0
    replace c1 := Aside0.mk c1
    by_cases c2 : byteAt s (i + 1) = 45
    · rw [if_pos c2] at hnp
      have b3 : ((byteAt s (i + 1) : Int) == 45) = true := by simp; omega
      have b4 : ((byteAt s (i + 1) : Int) == 43) = false := by simp; omega
      have hin2 : i + 1 < s.size := byteAt_in (by omega)
      clear c2
      unfold nExp at hnp
      cases hx : isDg (byteAt s (i + 2)) with
      | true =>
        rw [hx, if_pos rfl] at hnp
        replace hnp := Aside0.mk hnp
        go_wp2_with (first
          | (go_at_call 148; refine (at_n hV2 (by omega) (by omega)).mono ?_; rintro e w5 ⟨rfl, hW5, _⟩; have hc5 := cellAll hW5.str; have hd5 := cellAll hW5.idx; have hf5 := frozenAll hW5.idx)
          | (go_at_call 148; refine (at_n hW3 (by omega) (by omega)).mono ?_; rintro e w4 ⟨rfl, hW4, _⟩; have hc4 := cellAll hW4.str; have hd4 := cellAll hW4.idx; have hf4 := frozenAll hW4.idx; have hV2 := hW4.set_ (i + 2); rw [show (((i + 2 : Nat) : Int)) = (i : Int) + 1 + 1 by omega] at hV2)
          | (go_at_call 148; refine (at_n hW2 (by omega) (by omega)).mono ?_; rintro e w3 ⟨rfl, hW3, _⟩; have hc3 := cellAll hW3.str; have hd3 := cellAll hW3.idx; have hf3 := frozenAll hW3.idx)
          | (go_at_call 148; refine (at_n hV1 (by omega) (by omega)).mono ?_; rintro e w2 ⟨rfl, hW2, _⟩; have hc2 := cellAll hW2.str; have hd2 := cellAll hW2.idx; have hf2 := frozenAll hW2.idx)
          | (go_at_call 148; refine (at_n hW (by omega) (by omega)).mono ?_; rintro e w1 ⟨rfl, hW1, _⟩; have hc1 := cellAll hW1.str; have hd1 := cellAll hW1.idx; have hf1 := frozenAll hW1.idx; have hV1 := hW1.set_ (i + 1); rw [show (((i + 1 : Nat) : Int)) = (i : Int) + 1 by omega] at hV1)
          | (go_at_call 149; refine (isDigit_n _ _).mono ?_; rintro e w' ⟨rfl, hw⟩; rw [hw]; clear hw))
        rename_i K hK
        exact wp_label (hK _ _ ((pass6 s w fin).fall rfl ⟨i + 2, neg, bs, exp, (-1), 0, v, ⟨rfl, rfl, rfl, rfl, rfl, rfl, rfl, rfl, rfl, rfl⟩, hW5, ⟨hsz, by omega, by omega, by omega, he1, .inr rfl, by omega, by omega⟩, ⟨hx, s.size + 1, by omega, hnp.out⟩⟩ (by rw [nMu_eq hW5, nMu_eq hW]; simp only [nRank]; omega) hj0.out))
      | false =>
        rw [hx, if_neg (by simp)] at hnp
        replace hnp := Aside0.mk hnp
        go_wp2_with (first
          | (go_at_call 148; refine (at_n hV2 (by omega) (by omega)).mono ?_; rintro e w5 ⟨rfl, hW5, _⟩; have hc5 := cellAll hW5.str; have hd5 := cellAll hW5.idx; have hf5 := frozenAll hW5.idx)
          | (go_at_call 148; refine (at_n hW3 (by omega) (by omega)).mono ?_; rintro e w4 ⟨rfl, hW4, _⟩; have hc4 := cellAll hW4.str; have hd4 := cellAll hW4.idx; have hf4 := frozenAll hW4.idx; have hV2 := hW4.set_ (i + 2); rw [show (((i + 2 : Nat) : Int)) = (i : Int) + 1 + 1 by omega] at hV2)
          | (go_at_call 148; refine (at_n hW2 (by omega) (by omega)).mono ?_; rintro e w3 ⟨rfl, hW3, _⟩; have hc3 := cellAll hW3.str; have hd3 := cellAll hW3.idx; have hf3 := frozenAll hW3.idx)
          | (go_at_call 148; refine (at_n hV1 (by omega) (by omega)).mono ?_; rintro e w2 ⟨rfl, hW2, _⟩; have hc2 := cellAll hW2.str; have hd2 := cellAll hW2.idx; have hf2 := frozenAll hW2.idx)
          | (go_at_call 148; refine (at_n hW (by omega) (by omega)).mono ?_; rintro e w1 ⟨rfl, hW1, _⟩; have hc1 := cellAll hW1.str; have hd1 := cellAll hW1.idx; have hf1 := frozenAll hW1.idx; have hV1 := hW1.set_ (i + 1); rw [show (((i + 1 : Nat) : Int)) = (i : Int) + 1 by omega] at hV1)
          | (go_at_call 149; refine (isDigit_n _ _).mono ?_; rintro e w' ⟨rfl, hw⟩; rw [hw]; clear hw))
        go_step3
        exact hj0.out 1 _ _ ⟨i + 2, neg, bs, exp, (-1), 0, v, ⟨rfl, rfl, rfl, rfl, rfl, rfl, rfl, rfl, rfl, rfl⟩, hW5, ⟨hsz, by omega, by omega, by omega, he1, .inr rfl, by omega, by omega⟩, hnp.out.symm⟩ (by rw [nMu_eq hW5, nMu_eq hW]; simp only [nRank]; omega)
    rw [if_neg c2] at hnp
    have b3 : ((byteAt s (i + 1) : Int) == 45) = false := by simp; omega
    by_cases c3 : byteAt s (i + 1) = 43
    · rw [if_pos c3] at hnp
      have b4 : ((byteAt s (i + 1) : Int) == 43) = true := by simp; omega
      have hin2 : i + 1 < s.size := byteAt_in (by omega)
      clear c2 c3
      unfold nExp at hnp
      cases hx : isDg (byteAt s (i + 2)) with
      | true =>
        rw [hx, if_pos rfl] at hnp
        replace hnp := Aside0.mk hnp
        go_wp2_with (first
          | (go_at_call 148; refine (at_n hV2 (by omega) (by omega)).mono ?_; rintro e w4 ⟨rfl, hW4, _⟩; have hc4 := cellAll hW4.str; have hd4 := cellAll hW4.idx; have hf4 := frozenAll hW4.idx)
          | (go_at_call 148; refine (at_n hW2 (by omega) (by omega)).mono ?_; rintro e w3 ⟨rfl, hW3, _⟩; have hc3 := cellAll hW3.str; have hd3 := cellAll hW3.idx; have hf3 := frozenAll hW3.idx; have hV2 := hW3.set_ (i + 2); rw [show (((i + 2 : Nat) : Int)) = (i : Int) + 1 + 1 by omega] at hV2)
          | (go_at_call 148; refine (at_n hV1 (by omega) (by omega)).mono ?_; rintro e w2 ⟨rfl, hW2, _⟩; have hc2 := cellAll hW2.str; have hd2 := cellAll hW2.idx; have hf2 := frozenAll hW2.idx)
          | (go_at_call 148; refine (at_n hW (by omega) (by omega)).mono ?_; rintro e w1 ⟨rfl, hW1, _⟩; have hc1 := cellAll hW1.str; have hd1 := cellAll hW1.idx; have hf1 := frozenAll hW1.idx; have hV1 := hW1.set_ (i + 1); rw [show (((i + 1 : Nat) : Int)) = (i : Int) + 1 by omega] at hV1)
          | (go_at_call 149; refine (isDigit_n _ _).mono ?_; rintro e w' ⟨rfl, hw⟩; rw [hw]; clear hw))
        rename_i K hK
        exact wp_label (hK _ _ ((pass6 s w fin).fall rfl ⟨i + 2, neg, bs, exp, 1, 0, v, ⟨rfl, rfl, rfl, rfl, rfl, rfl, rfl, rfl, rfl, rfl⟩, hW4, ⟨hsz, by omega, by omega, by omega, he1, .inl rfl, by omega, by omega⟩, ⟨hx, s.size + 1, by omega, hnp.out⟩⟩ (by rw [nMu_eq hW4, nMu_eq hW]; simp only [nRank]; omega) hj0.out))
      | false =>
        rw [hx, if_neg (by simp)] at hnp
        replace hnp := Aside0.mk hnp
        go_wp2_with (first
          | (go_at_call 148; refine (at_n hV2 (by omega) (by omega)).mono ?_; rintro e w4 ⟨rfl, hW4, _⟩; have hc4 := cellAll hW4.str; have hd4 := cellAll hW4.idx; have hf4 := frozenAll hW4.idx)
          | (go_at_call 148; refine (at_n hW2 (by omega) (by omega)).mono ?_; rintro e w3 ⟨rfl, hW3, _⟩; have hc3 := cellAll hW3.str; have hd3 := cellAll hW3.idx; have hf3 := frozenAll hW3.idx; have hV2 := hW3.set_ (i + 2); rw [show (((i + 2 : Nat) : Int)) = (i : Int) + 1 + 1 by omega] at hV2)
          | (go_at_call 148; refine (at_n hV1 (by omega) (by omega)).mono ?_; rintro e w2 ⟨rfl, hW2, _⟩; have hc2 := cellAll hW2.str; have hd2 := cellAll hW2.idx; have hf2 := frozenAll hW2.idx)
          | (go_at_call 148; refine (at_n hW (by omega) (by omega)).mono ?_; rintro e w1 ⟨rfl, hW1, _⟩; have hc1 := cellAll hW1.str; have hd1 := cellAll hW1.idx; have hf1 := frozenAll hW1.idx; have hV1 := hW1.set_ (i + 1); rw [show (((i + 1 : Nat) : Int)) = (i : Int) + 1 by omega] at hV1)
          | (go_at_call 149; refine (isDigit_n _ _).mono ?_; rintro e w' ⟨rfl, hw⟩; rw [hw]; clear hw))
        go_step3
        exact hj0.out 1 _ _ ⟨i + 2, neg, bs, exp, 1, 0, v, ⟨rfl, rfl, rfl, rfl, rfl, rfl, rfl, rfl, rfl, rfl⟩, hW4, ⟨hsz, by omega, by omega, by omega, he1, .inl rfl, by omega, by omega⟩, hnp.out.symm⟩ (by rw [nMu_eq hW4, nMu_eq hW]; simp only [nRank]; omega)
    · rw [if_neg c3] at hnp
      have b4 : ((byteAt s (i + 1) : Int) == 43) = false := by simp; omega
      clear c2 c3
      unfold nExp at hnp
      cases hx : isDg (byteAt s (i + 1)) with
      | true =>
        rw [hx, if_pos rfl] at hnp
        replace hnp := Aside0.mk hnp
        go_wp2_with (first
          | (go_at_call 148; refine (at_n hW4 (by omega) (by omega)).mono ?_; rintro e w5 ⟨rfl, hW5, _⟩; have hc5 := cellAll hW5.str; have hd5 := cellAll hW5.idx; have hf5 := frozenAll hW5.idx)
          | (go_at_call 148; refine (at_n hW3 (by omega) (by omega)).mono ?_; rintro e w4 ⟨rfl, hW4, _⟩; have hc4 := cellAll hW4.str; have hd4 := cellAll hW4.idx; have hf4 := frozenAll hW4.idx)
          | (go_at_call 148; refine (at_n hW2 (by omega) (by omega)).mono ?_; rintro e w3 ⟨rfl, hW3, _⟩; have hc3 := cellAll hW3.str; have hd3 := cellAll hW3.idx; have hf3 := frozenAll hW3.idx)
          | (go_at_call 148; refine (at_n hV1 (by omega) (by omega)).mono ?_; rintro e w2 ⟨rfl, hW2, _⟩; have hc2 := cellAll hW2.str; have hd2 := cellAll hW2.idx; have hf2 := frozenAll hW2.idx)
          | (go_at_call 148; refine (at_n hW (by omega) (by omega)).mono ?_; rintro e w1 ⟨rfl, hW1, _⟩; have hc1 := cellAll hW1.str; have hd1 := cellAll hW1.idx; have hf1 := frozenAll hW1.idx; have hV1 := hW1.set_ (i + 1); rw [show (((i + 1 : Nat) : Int)) = (i : Int) + 1 by omega] at hV1)
          | (go_at_call 149; refine (isDigit_n _ _).mono ?_; rintro e w' ⟨rfl, hw⟩; rw [hw]; clear hw))
        rename_i K hK
        exact wp_label (hK _ _ ((pass6 s w fin).fall rfl ⟨i + 1, neg, bs, exp, 1, 0, v, ⟨rfl, rfl, rfl, rfl, rfl, rfl, rfl, rfl, rfl, rfl⟩, hW5, ⟨hsz, by omega, by omega, by omega, he1, .inl rfl, by omega, by omega⟩, ⟨hx, s.size + 1, by omega, hnp.out⟩⟩ (by rw [nMu_eq hW5, nMu_eq hW]; simp only [nRank]; omega) hj0.out))
      | false =>
        rw [hx, if_neg (by simp)] at hnp
        replace hnp := Aside0.mk hnp
        go_wp2_with (first
          | (go_at_call 148; refine (at_n hW4 (by omega) (by omega)).mono ?_; rintro e w5 ⟨rfl, hW5, _⟩; have hc5 := cellAll hW5.str; have hd5 := cellAll hW5.idx; have hf5 := frozenAll hW5.idx)
          | (go_at_call 148; refine (at_n hW3 (by omega) (by omega)).mono ?_; rintro e w4 ⟨rfl, hW4, _⟩; have hc4 := cellAll hW4.str; have hd4 := cellAll hW4.idx; have hf4 := frozenAll hW4.idx)
          | (go_at_call 148; refine (at_n hW2 (by omega) (by omega)).mono ?_; rintro e w3 ⟨rfl, hW3, _⟩; have hc3 := cellAll hW3.str; have hd3 := cellAll hW3.idx; have hf3 := frozenAll hW3.idx)
          | (go_at_call 148; refine (at_n hV1 (by omega) (by omega)).mono ?_; rintro e w2 ⟨rfl, hW2, _⟩; have hc2 := cellAll hW2.str; have hd2 := cellAll hW2.idx; have hf2 := frozenAll hW2.idx)
          | (go_at_call 148; refine (at_n hW (by omega) (by omega)).mono ?_; rintro e w1 ⟨rfl, hW1, _⟩; have hc1 := cellAll hW1.str; have hd1 := cellAll hW1.idx; have hf1 := frozenAll hW1.idx; have hV1 := hW1.set_ (i + 1); rw [show (((i + 1 : Nat) : Int)) = (i : Int) + 1 by omega] at hV1)
          | (go_at_call 149; refine (isDigit_n _ _).mono ?_; rintro e w' ⟨rfl, hw⟩; rw [hw]; clear hw))
        go_step3
        exact hj0.out 1 _ _ ⟨i + 1, neg, bs, exp, 1, 0, v, ⟨rfl, rfl, rfl, rfl, rfl, rfl, rfl, rfl, rfl, rfl⟩, hW5, ⟨hsz, by omega, by omega, by omega, he1, .inl rfl, by omega, by omega⟩, hnp.out.symm⟩ (by rw [nMu_eq hW5, nMu_eq hW]; simp only [nRank]; omega)
  · have b1 : ((byteAt s i : Int) != 101) = true := by simp; omega
    have b2 : ((byteAt s i : Int) != 69) = false := by simp; omega
    clear c0
    replace c1 := Aside0.mk c1
    by_cases c2 : byteAt s (i + 1) = 45
    · rw [if_pos c2] at hnp
      have b3 : ((byteAt s (i + 1) : Int) == 45) = true := by simp; omega
      have b4 : ((byteAt s (i + 1) : Int) == 43) = false := by simp; omega
      have hin2 : i + 1 < s.size := byteAt_in (by omega)
      clear c2
      unfold nExp at hnp
      cases hx : isDg (byteAt s (i + 2)) with
      | true =>
        rw [hx, if_pos rfl] at hnp
        replace hnp := Aside0.mk hnp
        go_wp2_with (first
          | (go_at_call 148; refine (at_n hV2 (by omega) (by omega)).mono ?_; rintro e w6 ⟨rfl, hW6, _⟩; have hc6 := cellAll hW6.str; have hd6 := cellAll hW6.idx; have hf6 := frozenAll hW6.idx)
          | (go_at_call 148; refine (at_n hW4 (by omega) (by omega)).mono ?_; rintro e w5 ⟨rfl, hW5, _⟩; have hc5 := cellAll hW5.str; have hd5 := cellAll hW5.idx; have hf5 := frozenAll hW5.idx; have hV2 := hW5.set_ (i + 2); rw [show (((i + 2 : Nat) : Int)) = (i : Int) + 1 + 1 by omega] at hV2)
          | (go_at_call 148; refine (at_n hW3 (by omega) (by omega)).mono ?_; rintro e w4 ⟨rfl, hW4, _⟩; have hc4 := cellAll hW4.str; have hd4 := cellAll hW4.idx; have hf4 := frozenAll hW4.idx)
          | (go_at_call 148; refine (at_n hV1 (by omega) (by omega)).mono ?_; rintro e w3 ⟨rfl, hW3, _⟩; have hc3 := cellAll hW3.str; have hd3 := cellAll hW3.idx; have hf3 := frozenAll hW3.idx)
          | (go_at_call 148; refine (at_n hW1 (by omega) (by omega)).mono ?_; rintro e w2 ⟨rfl, hW2, _⟩; have hc2 := cellAll hW2.str; have hd2 := cellAll hW2.idx; have hf2 := frozenAll hW2.idx; have hV1 := hW2.set_ (i + 1); rw [show (((i + 1 : Nat) : Int)) = (i : Int) + 1 by omega] at hV1)
          | (go_at_call 148; refine (at_n hW (by omega) (by omega)).mono ?_; rintro e w1 ⟨rfl, hW1, _⟩; have hc1 := cellAll hW1.str; have hd1 := cellAll hW1.idx; have hf1 := frozenAll hW1.idx)
          | (go_at_call 149; refine (isDigit_n _ _).mono ?_; rintro e w' ⟨rfl, hw⟩; rw [hw]; clear hw))
        rename_i K hK
        exact wp_label (hK _ _ ((pass6 s w fin).fall rfl ⟨i + 2, neg, bs, exp, (-1), 0, v, ⟨rfl, rfl, rfl, rfl, rfl, rfl, rfl, rfl, rfl, rfl⟩, hW6, ⟨hsz, by omega, by omega, by omega, he1, .inr rfl, by omega, by omega⟩, ⟨hx, s.size + 1, by omega, hnp.out⟩⟩ (by rw [nMu_eq hW6, nMu_eq hW]; simp only [nRank]; omega) hj0.out))
      | false =>
        rw [hx, if_neg (by simp)] at hnp
        replace hnp := Aside0.mk hnp
        go_wp2_with (first
          | (go_at_call 148; refine (at_n hV2 (by omega) (by omega)).mono ?_; rintro e w6 ⟨rfl, hW6, _⟩; have hc6 := cellAll hW6.str; have hd6 := cellAll hW6.idx; have hf6 := frozenAll hW6.idx)
          | (go_at_call 148; refine (at_n hW4 (by omega) (by omega)).mono ?_; rintro e w5 ⟨rfl, hW5, _⟩; have hc5 := cellAll hW5.str; have hd5 := cellAll hW5.idx; have hf5 := frozenAll hW5.idx; have hV2 := hW5.set_ (i + 2); rw [show (((i + 2 : Nat) : Int)) = (i : Int) + 1 + 1 by omega] at hV2)
          | (go_at_call 148; refine (at_n hW3 (by omega) (by omega)).mono ?_; rintro e w4 ⟨rfl, hW4, _⟩; have hc4 := cellAll hW4.str; have hd4 := cellAll hW4.idx; have hf4 := frozenAll hW4.idx)
          | (go_at_call 148; refine (at_n hV1 (by omega) (by omega)).mono ?_; rintro e w3 ⟨rfl, hW3, _⟩; have hc3 := cellAll hW3.str; have hd3 := cellAll hW3.idx; have hf3 := frozenAll hW3.idx)
          | (go_at_call 148; refine (at_n hW1 (by omega) (by omega)).mono ?_; rintro e w2 ⟨rfl, hW2, _⟩; have hc2 := cellAll hW2.str; have hd2 := cellAll hW2.idx; have hf2 := frozenAll hW2.idx; have hV1 := hW2.set_ (i + 1); rw [show (((i + 1 : Nat) : Int)) = (i : Int) + 1 by omega] at hV1)
          | (go_at_call 148; refine (at_n hW (by omega) (by omega)).mono ?_; rintro e w1 ⟨rfl, hW1, _⟩; have hc1 := cellAll hW1.str; have hd1 := cellAll hW1.idx; have hf1 := frozenAll hW1.idx)
          | (go_at_call 149; refine (isDigit_n _ _).mono ?_; rintro e w' ⟨rfl, hw⟩; rw [hw]; clear hw))
        go_step3
        exact hj0.out 1 _ _ ⟨i + 2, neg, bs, exp, (-1), 0, v, ⟨rfl, rfl, rfl, rfl, rfl, rfl, rfl, rfl, rfl, rfl⟩, hW6, ⟨hsz, by omega, by omega, by omega, he1, .inr rfl, by omega, by omega⟩, hnp.out.symm⟩ (by rw [nMu_eq hW6, nMu_eq hW]; simp only [nRank]; omega)
    rw [if_neg c2] at hnp
    have b3 : ((byteAt s (i + 1) : Int) == 45) = false := by simp; omega
    by_cases c3 : byteAt s (i + 1) = 43
    · rw [if_pos c3] at hnp
      have b4 : ((byteAt s (i + 1) : Int) == 43) = true := by simp; omega
      have hin2 : i + 1 < s.size := byteAt_in (by omega)
      clear c2 c3
      unfold nExp at hnp
      cases hx : isDg (byteAt s (i + 2)) with
      | true =>
        rw [hx, if_pos rfl] at hnp
        replace hnp := Aside0.mk hnp
        go_wp2_with (first
          | (go_at_call 148; refine (at_n hV2 (by omega) (by omega)).mono ?_; rintro e w5 ⟨rfl, hW5, _⟩; have hc5 := cellAll hW5.str; have hd5 := cellAll hW5.idx; have hf5 := frozenAll hW5.idx)
          | (go_at_call 148; refine (at_n hW3 (by omega) (by omega)).mono ?_; rintro e w4 ⟨rfl, hW4, _⟩; have hc4 := cellAll hW4.str; have hd4 := cellAll hW4.idx; have hf4 := frozenAll hW4.idx; have hV2 := hW4.set_ (i + 2); rw [show (((i + 2 : Nat) : Int)) = (i : Int) + 1 + 1 by omega] at hV2)
          | (go_at_call 148; refine (at_n hV1 (by omega) (by omega)).mono ?_; rintro e w3 ⟨rfl, hW3, _⟩; have hc3 := cellAll hW3.str; have hd3 := cellAll hW3.idx; have hf3 := frozenAll hW3.idx)
          | (go_at_call 148; refine (at_n hW1 (by omega) (by omega)).mono ?_; rintro e w2 ⟨rfl, hW2, _⟩; have hc2 := cellAll hW2.str; have hd2 := cellAll hW2.idx; have hf2 := frozenAll hW2.idx; have hV1 := hW2.set_ (i + 1); rw [show (((i + 1 : Nat) : Int)) = (i : Int) + 1 by omega] at hV1)
          | (go_at_call 148; refine (at_n hW (by omega) (by omega)).mono ?_; rintro e w1 ⟨rfl, hW1, _⟩; have hc1 := cellAll hW1.str; have hd1 := cellAll hW1.idx; have hf1 := frozenAll hW1.idx)
          | (go_at_call 149; refine (isDigit_n _ _).mono ?_; rintro e w' ⟨rfl, hw⟩; rw [hw]; clear hw))
        rename_i K hK
        exact wp_label (hK _ _ ((pass6 s w fin).fall rfl ⟨i + 2, neg, bs, exp, 1, 0, v, ⟨rfl, rfl, rfl, rfl, rfl, rfl, rfl, rfl, rfl, rfl⟩, hW5, ⟨hsz, by omega, by omega, by omega, he1, .inl rfl, by omega, by omega⟩, ⟨hx, s.size + 1, by omega, hnp.out⟩⟩ (by rw [nMu_eq hW5, nMu_eq hW]; simp only [nRank]; omega) hj0.out))
      | false =>
        rw [hx, if_neg (by simp)] at hnp
        replace hnp := Aside0.mk hnp
        go_wp2_with (first
          | (go_at_call 148; refine (at_n hV2 (by omega) (by omega)).mono ?_; rintro e w5 ⟨rfl, hW5, _⟩; have hc5 := cellAll hW5.str; have hd5 := cellAll hW5.idx; have hf5 := frozenAll hW5.idx)
          | (go_at_call 148; refine (at_n hW3 (by omega) (by omega)).mono ?_; rintro e w4 ⟨rfl, hW4, _⟩; have hc4 := cellAll hW4.str; have hd4 := cellAll hW4.idx; have hf4 := frozenAll hW4.idx; have hV2 := hW4.set_ (i + 2); rw [show (((i + 2 : Nat) : Int)) = (i : Int) + 1 + 1 by omega] at hV2)
          | (go_at_call 148; refine (at_n hV1 (by omega) (by omega)).mono ?_; rintro e w3 ⟨rfl, hW3, _⟩; have hc3 := cellAll hW3.str; have hd3 := cellAll hW3.idx; have hf3 := frozenAll hW3.idx)
          | (go_at_call 148; refine (at_n hW1 (by omega) (by omega)).mono ?_; rintro e w2 ⟨rfl, hW2, _⟩; have hc2 := cellAll hW2.str; have hd2 := cellAll hW2.idx; have hf2 := frozenAll hW2.idx; have hV1 := hW2.set_ (i + 1); rw [show (((i + 1 : Nat) : Int)) = (i : Int) + 1 by omega] at hV1)
          | (go_at_call 148; refine (at_n hW (by omega) (by omega)).mono ?_; rintro e w1 ⟨rfl, hW1, _⟩; have hc1 := cellAll hW1.str; have hd1 := cellAll hW1.idx; have hf1 := frozenAll hW1.idx)
          | (go_at_call 149; refine (isDigit_n _ _).mono ?_; rintro e w' ⟨rfl, hw⟩; rw [hw]; clear hw))
        go_step3
        exact hj0.out 1 _ _ ⟨i + 2, neg, bs, exp, 1, 0, v, ⟨rfl, rfl, rfl, rfl, rfl, rfl, rfl, rfl, rfl, rfl⟩, hW5, ⟨hsz, by omega, by omega, by omega, he1, .inl rfl, by omega, by omega⟩, hnp.out.symm⟩ (by rw [nMu_eq hW5, nMu_eq hW]; simp only [nRank]; omega)
    · rw [if_neg c3] at hnp
      have b4 : ((byteAt s (i + 1) : Int) == 43) = false := by simp; omega
      clear c2 c3
      unfold nExp at hnp
      cases hx : isDg (byteAt s (i + 1)) with
      | true =>
        rw [hx, if_pos rfl] at hnp
        replace hnp := Aside0.mk hnp
        go_wp2_with (first
          | (go_at_call 148; refine (at_n hW5 (by omega) (by omega)).mono ?_; rintro e w6 ⟨rfl, hW6, _⟩; have hc6 := cellAll hW6.str; have hd6 := cellAll hW6.idx; have hf6 := frozenAll hW6.idx)
          | (go_at_call 148; refine (at_n hW4 (by omega) (by omega)).mono ?_; rintro e w5 ⟨rfl, hW5, _⟩; have hc5 := cellAll hW5.str; have hd5 := cellAll hW5.idx; have hf5 := frozenAll hW5.idx)
          | (go_at_call 148; refine (at_n hW3 (by omega) (by omega)).mono ?_; rintro e w4 ⟨rfl, hW4, _⟩; have hc4 := cellAll hW4.str; have hd4 := cellAll hW4.idx; have hf4 := frozenAll hW4.idx)
          | (go_at_call 148; refine (at_n hV1 (by omega) (by omega)).mono ?_; rintro e w3 ⟨rfl, hW3, _⟩; have hc3 := cellAll hW3.str; have hd3 := cellAll hW3.idx; have hf3 := frozenAll hW3.idx)
          | (go_at_call 148; refine (at_n hW1 (by omega) (by omega)).mono ?_; rintro e w2 ⟨rfl, hW2, _⟩; have hc2 := cellAll hW2.str; have hd2 := cellAll hW2.idx; have hf2 := frozenAll hW2.idx; have hV1 := hW2.set_ (i + 1); rw [show (((i + 1 : Nat) : Int)) = (i : Int) + 1 by omega] at hV1)
          | (go_at_call 148; refine (at_n hW (by omega) (by omega)).mono ?_; rintro e w1 ⟨rfl, hW1, _⟩; have hc1 := cellAll hW1.str; have hd1 := cellAll hW1.idx; have hf1 := frozenAll hW1.idx)
          | (go_at_call 149; refine (isDigit_n _ _).mono ?_; rintro e w' ⟨rfl, hw⟩; rw [hw]; clear hw))
        rename_i K hK
        exact wp_label (hK _ _ ((pass6 s w fin).fall rfl ⟨i + 1, neg, bs, exp, 1, 0, v, ⟨rfl, rfl, rfl, rfl, rfl, rfl, rfl, rfl, rfl, rfl⟩, hW6, ⟨hsz, by omega, by omega, by omega, he1, .inl rfl, by omega, by omega⟩, ⟨hx, s.size + 1, by omega, hnp.out⟩⟩ (by rw [nMu_eq hW6, nMu_eq hW]; simp only [nRank]; omega) hj0.out))
      | false =>
        rw [hx, if_neg (by simp)] at hnp
        replace hnp := Aside0.mk hnp
        go_wp2_with (first
          | (go_at_call 148; refine (at_n hW5 (by omega) (by omega)).mono ?_; rintro e w6 ⟨rfl, hW6, _⟩; have hc6 := cellAll hW6.str; have hd6 := cellAll hW6.idx; have hf6 := frozenAll hW6.idx)
          | (go_at_call 148; refine (at_n hW4 (by omega) (by omega)).mono ?_; rintro e w5 ⟨rfl, hW5, _⟩; have hc5 := cellAll hW5.str; have hd5 := cellAll hW5.idx; have hf5 := frozenAll hW5.idx)
          | (go_at_call 148; refine (at_n hW3 (by omega) (by omega)).mono ?_; rintro e w4 ⟨rfl, hW4, _⟩; have hc4 := cellAll hW4.str; have hd4 := cellAll hW4.idx; have hf4 := frozenAll hW4.idx)
          | (go_at_call 148; refine (at_n hV1 (by omega) (by omega)).mono ?_; rintro e w3 ⟨rfl, hW3, _⟩; have hc3 := cellAll hW3.str; have hd3 := cellAll hW3.idx; have hf3 := frozenAll hW3.idx)
          | (go_at_call 148; refine (at_n hW1 (by omega) (by omega)).mono ?_; rintro e w2 ⟨rfl, hW2, _⟩; have hc2 := cellAll hW2.str; have hd2 := cellAll hW2.idx; have hf2 := frozenAll hW2.idx; have hV1 := hW2.set_ (i + 1); rw [show (((i + 1 : Nat) : Int)) = (i : Int) + 1 by omega] at hV1)
          | (go_at_call 148; refine (at_n hW (by omega) (by omega)).mono ?_; rintro e w1 ⟨rfl, hW1, _⟩; have hc1 := cellAll hW1.str; have hd1 := cellAll hW1.idx; have hf1 := frozenAll hW1.idx)
          | (go_at_call 149; refine (isDigit_n _ _).mono ?_; rintro e w' ⟨rfl, hw⟩; rw [hw]; clear hw))
        go_step3
        exact hj0.out 1 _ _ ⟨i + 1, neg, bs, exp, 1, 0, v, ⟨rfl, rfl, rfl, rfl, rfl, rfl, rfl, rfl, rfl, rfl⟩, hW6, ⟨hsz, by omega, by omega, by omega, he1, .inl rfl, by omega, by omega⟩, hnp.out.symm⟩ (by rw [nMu_eq hW6, nMu_eq hW]; simp only [nRank]; omega)
end Go.Proofs.YtkdeleafgailhaaGreatDoor
end
