/- dec.numeral: the labels fraction, behind, first. -/
import Derived.Test.YtkdeleafgailhaaGreatDoorN12
section
set_option linter.unusedVariables false
set_option linter.unusedSimpArgs false
namespace Go.Proofs.YtkdeleafgailhaaGreatDoor
open Go Go.RowKit Go.Proofs.YtkdeleafgailhaaGreatDoorW.PrintWords

set_option maxRecDepth 100000 in
set_option maxHeartbeats 4000000 in
theorem pass0 (s : ByteArray) (w : World) (fin : Option (Bool × List Int × Int)) : NPass s w fin 0 := by
  refine ⟨_, rfl, ?_⟩
  rintro a W ⟨i, neg, bs, exp, sign, tens, v, hA, hW, hB, hL⟩ Jm hj
  have hsg := hB.sg
  have ht0 := hB.t0
  have ht1 := hB.t1
  have he0 := hB.e0
  have he1 := hB.e1
  have hsz := hB.size
  have hil := hB.i_le
  have hbl := hB.len
  have hj0 := Aside0.mk hj
  clear hj
  obtain ⟨u, rfl⟩ := hA.open_
  unfold nClo
  clear hA
  have hc := cellAll hW.str
  have hc2 := cellAll hW.idx
  have hf := frozenAll hW.idx
  obtain ⟨rfl, rfl, rfl, hnb⟩ : exp = 0 ∧ sign = 1 ∧ tens = 0 ∧ nBeh s i neg bs = fin := hL
  unfold nBeh at hnb
  clear hsg ht0 ht1
  by_cases c0 : byteAt s i = 46
  · rw [if_pos c0] at hnb
    have b1 : ((byteAt s i : Int) == 46) = true := by simp; omega
    have hin : i < s.size := byteAt_in (by omega)
    clear c0
    cases hx : isDg (byteAt s (i + 1)) with
    | true =>
      rw [hx, if_pos rfl] at hnb
      replace hnb := Aside0.mk hnb
      have hin2 := (isDg_in hx).2.2
      go_wp2_with (first
        | (go_at_call 148; refine (at_n hV1 (by omega) (by omega)).mono ?_; rintro e w2 ⟨rfl, hW2, _⟩; have hc2 := cellAll hW2.str; have hd2 := cellAll hW2.idx; have hf2 := frozenAll hW2.idx)
        | (go_at_call 148; refine (at_n hW (by omega) (by omega)).mono ?_; rintro e w1 ⟨rfl, hW1, _⟩; have hc1 := cellAll hW1.str; have hd1 := cellAll hW1.idx; have hf1 := frozenAll hW1.idx; have hV1 := hW1.set_ (i + 1); rw [show (((i + 1 : Nat) : Int)) = (i : Int) + 1 by omega] at hV1)
        | (go_at_call 149; refine (isDigit_n _ _).mono ?_; rintro e w' ⟨rfl, hw⟩; rw [hw]; clear hw))
      go_step3
      exact hj0.out 3 _ _ ⟨i + 1, neg, bs, 0, 1, 0, v, ⟨rfl, rfl, rfl, rfl, rfl, rfl, rfl, rfl, rfl, rfl⟩, hW2, ⟨hsz, by omega, by omega, by omega, by omega, .inl rfl, by omega, by omega⟩, ⟨rfl, rfl, hin2, s.size + 1, by omega, hnb.out⟩⟩ (by rw [nMu_eq hW2, nMu_eq hW]; simp only [nRank]; omega)
    | false =>
      rw [hx, if_neg (by simp)] at hnb
      replace hnb := Aside0.mk hnb
      go_wp2_with (first
        | (go_at_call 148; refine (at_n hV1 (by omega) (by omega)).mono ?_; rintro e w2 ⟨rfl, hW2, _⟩; have hc2 := cellAll hW2.str; have hd2 := cellAll hW2.idx; have hf2 := frozenAll hW2.idx)
        | (go_at_call 148; refine (at_n hW (by omega) (by omega)).mono ?_; rintro e w1 ⟨rfl, hW1, _⟩; have hc1 := cellAll hW1.str; have hd1 := cellAll hW1.idx; have hf1 := frozenAll hW1.idx; have hV1 := hW1.set_ (i + 1); rw [show (((i + 1 : Nat) : Int)) = (i : Int) + 1 by omega] at hV1)
        | (go_at_call 149; refine (isDigit_n _ _).mono ?_; rintro e w' ⟨rfl, hw⟩; rw [hw]; clear hw))
      go_step3
      exact hj0.out 1 _ _ ⟨i + 1, neg, bs, 0, 1, 0, v, ⟨rfl, rfl, rfl, rfl, rfl, rfl, rfl, rfl, rfl, rfl⟩, hW2, ⟨hsz, by omega, by omega, by omega, by omega, .inl rfl, by omega, by omega⟩, hnb.out.symm⟩ (by rw [nMu_eq hW2, nMu_eq hW]; simp only [nRank]; omega)
  · rw [if_neg c0] at hnb
    have b1 : ((byteAt s i : Int) == 46) = false := by simp; omega
    clear c0
    replace hnb := Aside0.mk hnb
    go_wp2_with (first
      | (go_at_call 148; refine (at_n hW (by omega) (by omega)).mono ?_; rintro e w1 ⟨rfl, hW1, _⟩; have hc1 := cellAll hW1.str; have hd1 := cellAll hW1.idx; have hf1 := frozenAll hW1.idx))
    go_step3
    exact hj0.out 4 _ _ ⟨i, neg, bs, 0, 1, 0, v, ⟨rfl, rfl, rfl, rfl, rfl, rfl, rfl, rfl, rfl, rfl⟩, hW1, ⟨hsz, by omega, hbl, by omega, by omega, .inl rfl, by omega, by omega⟩, ⟨rfl, rfl, hnb.out⟩⟩ (by rw [nMu_eq hW1, nMu_eq hW]; simp only [nRank]; omega)

set_option maxRecDepth 100000 in
set_option maxHeartbeats 4000000 in
theorem pass3 (s : ByteArray) (w : World) (fin : Option (Bool × List Int × Int)) : NPass s w fin 3 := by
  refine ⟨_, rfl, ?_⟩
  rintro a W ⟨i, neg, bs, exp, sign, tens, v, hA, hW, hB, hL⟩ Jm hj
  have hsg := hB.sg
  have ht0 := hB.t0
  have ht1 := hB.t1
  have he0 := hB.e0
  have he1 := hB.e1
  have hsz := hB.size
  have hil := hB.i_le
  have hbl := hB.len
  have hj0 := Aside0.mk hj
  clear hj
  obtain ⟨u, rfl⟩ := hA.open_
  unfold nClo
  clear hA
  have hc := cellAll hW.str
  have hc2 := cellAll hW.idx
  have hf := frozenAll hW.idx
  obtain ⟨rfl, rfl, hil2, n, hn, hnf⟩ : sign = 1 ∧ tens = 0 ∧ i < s.size ∧ ∃ n, s.size < i + n ∧ nFrac s n i neg bs exp = fin := hL
  obtain ⟨m, rfl⟩ : ∃ m, n = m + 1 := ⟨n - 1, by omega⟩
  have hstep : nFrac s (m + 1) i neg bs exp = if isDg (byteAt s (i + 1)) = true then nFrac s m (i + 1) neg (bs ++ [(byteAt s i : Int)]) (exp - 1) else nPow s (i + 1) neg (bs ++ [(byteAt s i : Int)]) (exp - 1) := rfl
  rw [hstep] at hnf
  clear hstep hsg ht0 ht1
  cases hx : isDg (byteAt s (i + 1)) with
  | true =>
    rw [hx, if_pos rfl] at hnf
    replace hnf := Aside0.mk hnf
    have hin2 := (isDg_in hx).2.2
    go_wp2_with (first
      | (go_at_call 148; refine (at_n hV2 (by omega) (by omega)).mono ?_; rintro e w3 ⟨rfl, hW3, _⟩; have hc3 := cellAll hW3.str; have hd3 := cellAll hW3.idx; have hf3 := frozenAll hW3.idx)
      | ((with_reducible refine gate_builtin (b := .append) (xs := #[.tmp 58, .tmp 61]) rfl ?_); at_builtin; refine print_append_num (w0 := w) w.heap.size rfl (.tmp 58) (.tmp 61) 49 5 .u8 1 rfl Tryz.underlying49 (by kernel_rfl) (by decide) v bs (byteAt s i : Int) rfl rfl hW1.own hW1.low (by have := hW1.le; omega) (by omega) ?_; intro v1 w2 hown hlow hg hat; have hW2 := hW1.append hown hg hlow; clear hown hlow hg hat; have hc2 := cellAll hW2.str; have hd2 := cellAll hW2.idx; have hf2 := frozenAll hW2.idx; have hV2 := hW2.set_ (i + 1); rw [show (((i + 1 : Nat) : Int)) = (i : Int) + 1 by omega] at hV2)
      | (go_at_call 148; refine (at_n hW (by omega) (by omega)).mono ?_; rintro e w1 ⟨rfl, hW1, _⟩; have hc1 := cellAll hW1.str; have hd1 := cellAll hW1.idx; have hf1 := frozenAll hW1.idx)
      | (go_at_call 149; refine (isDigit_n _ _).mono ?_; rintro e w' ⟨rfl, hw⟩; rw [hw]; clear hw))
    go_step3
    exact hj0.out 3 _ _ ⟨i + 1, neg, _, exp - 1, 1, 0, v1, ⟨rfl, rfl, rfl, rfl, rfl, rfl, rfl, rfl, rfl, rfl⟩, hW3, ⟨hsz, by omega, by rw [List.length_append]; show bs.length + 1 ≤ i + 1; omega, by omega, by omega, .inl rfl, by omega, by omega⟩, ⟨rfl, rfl, hin2, m, by omega, hnf.out⟩⟩ (by rw [nMu_eq hW3, nMu_eq hW]; simp only [nRank]; omega)
  | false =>
    rw [hx, if_neg (by simp)] at hnf
    replace hnf := Aside0.mk hnf
    go_wp2_with (first
      | (go_at_call 148; refine (at_n hV2 (by omega) (by omega)).mono ?_; rintro e w3 ⟨rfl, hW3, _⟩; have hc3 := cellAll hW3.str; have hd3 := cellAll hW3.idx; have hf3 := frozenAll hW3.idx)
      | ((with_reducible refine gate_builtin (b := .append) (xs := #[.tmp 58, .tmp 61]) rfl ?_); at_builtin; refine print_append_num (w0 := w) w.heap.size rfl (.tmp 58) (.tmp 61) 49 5 .u8 1 rfl Tryz.underlying49 (by kernel_rfl) (by decide) v bs (byteAt s i : Int) rfl rfl hW1.own hW1.low (by have := hW1.le; omega) (by omega) ?_; intro v1 w2 hown hlow hg hat; have hW2 := hW1.append hown hg hlow; clear hown hlow hg hat; have hc2 := cellAll hW2.str; have hd2 := cellAll hW2.idx; have hf2 := frozenAll hW2.idx; have hV2 := hW2.set_ (i + 1); rw [show (((i + 1 : Nat) : Int)) = (i : Int) + 1 by omega] at hV2)
      | (go_at_call 148; refine (at_n hW (by omega) (by omega)).mono ?_; rintro e w1 ⟨rfl, hW1, _⟩; have hc1 := cellAll hW1.str; have hd1 := cellAll hW1.idx; have hf1 := frozenAll hW1.idx)
      | (go_at_call 149; refine (isDigit_n _ _).mono ?_; rintro e w' ⟨rfl, hw⟩; rw [hw]; clear hw))
    rename_i K hK
    exact wp_label (hK _ _ ((pass4 s w fin).fall rfl ⟨i + 1, neg, _, exp - 1, 1, 0, v1, ⟨rfl, rfl, rfl, rfl, rfl, rfl, rfl, rfl, rfl, rfl⟩, hW3, ⟨hsz, by omega, by rw [List.length_append]; show bs.length + 1 ≤ i + 1; omega, by omega, by omega, .inl rfl, by omega, by omega⟩, ⟨rfl, rfl, hnf.out⟩⟩ (by rw [nMu_eq hW3, nMu_eq hW]; simp only [nRank]; omega) hj0.out))

set_option maxRecDepth 100000 in
set_option maxHeartbeats 4000000 in
theorem pass2 (s : ByteArray) (w : World) (fin : Option (Bool × List Int × Int)) : NPass s w fin 2 := by
  refine ⟨_, rfl, ?_⟩
  rintro a W ⟨i, neg, bs, exp, sign, tens, v, hA, hW, hB, hL⟩ Jm hj
  have hsg := hB.sg
  have ht0 := hB.t0
  have ht1 := hB.t1
  have he0 := hB.e0
  have he1 := hB.e1
  have hsz := hB.size
  have hil := hB.i_le
  have hbl := hB.len
  have hj0 := Aside0.mk hj
  clear hj
  obtain ⟨u, rfl⟩ := hA.open_
  unfold nClo
  clear hA
  have hc := cellAll hW.str
  have hc2 := cellAll hW.idx
  have hf := frozenAll hW.idx
  obtain ⟨rfl, rfl, rfl, hil2, n, hn, hnf⟩ : exp = 0 ∧ sign = 1 ∧ tens = 0 ∧ i < s.size ∧ ∃ n, s.size < i + n ∧ nFst s n i neg bs = fin := hL
  obtain ⟨m, rfl⟩ : ∃ m, n = m + 1 := ⟨n - 1, by omega⟩
  have hstep : nFst s (m + 1) i neg bs = if isDg (byteAt s (i + 1)) = true then nFst s m (i + 1) neg (bs ++ [(byteAt s i : Int)]) else nBeh s (i + 1) neg (bs ++ [(byteAt s i : Int)]) := rfl
  rw [hstep] at hnf
  clear hstep hsg ht0 ht1
  cases hx : isDg (byteAt s (i + 1)) with
  | true =>
    rw [hx, if_pos rfl] at hnf
    replace hnf := Aside0.mk hnf
    have hin2 := (isDg_in hx).2.2
    go_wp2_with (first
      | (go_at_call 148; refine (at_n hV2 (by omega) (by omega)).mono ?_; rintro e w3 ⟨rfl, hW3, _⟩; have hc3 := cellAll hW3.str; have hd3 := cellAll hW3.idx; have hf3 := frozenAll hW3.idx)
      | ((with_reducible refine gate_builtin (b := .append) (xs := #[.tmp 39, .tmp 42]) rfl ?_); at_builtin; refine print_append_num (w0 := w) w.heap.size rfl (.tmp 39) (.tmp 42) 49 5 .u8 1 rfl Tryz.underlying49 (by kernel_rfl) (by decide) v bs (byteAt s i : Int) rfl rfl hW1.own hW1.low (by have := hW1.le; omega) (by omega) ?_; intro v1 w2 hown hlow hg hat; have hW2 := hW1.append hown hg hlow; clear hown hlow hg hat; have hc2 := cellAll hW2.str; have hd2 := cellAll hW2.idx; have hf2 := frozenAll hW2.idx; have hV2 := hW2.set_ (i + 1); rw [show (((i + 1 : Nat) : Int)) = (i : Int) + 1 by omega] at hV2)
      | (go_at_call 148; refine (at_n hW (by omega) (by omega)).mono ?_; rintro e w1 ⟨rfl, hW1, _⟩; have hc1 := cellAll hW1.str; have hd1 := cellAll hW1.idx; have hf1 := frozenAll hW1.idx)
      | (go_at_call 149; refine (isDigit_n _ _).mono ?_; rintro e w' ⟨rfl, hw⟩; rw [hw]; clear hw))
    go_step3
    exact hj0.out 2 _ _ ⟨i + 1, neg, _, 0, 1, 0, v1, ⟨rfl, rfl, rfl, rfl, rfl, rfl, rfl, rfl, rfl, rfl⟩, hW3, ⟨hsz, by omega, by rw [List.length_append]; show bs.length + 1 ≤ i + 1; omega, by omega, by omega, .inl rfl, by omega, by omega⟩, ⟨rfl, rfl, rfl, hin2, m, by omega, hnf.out⟩⟩ (by rw [nMu_eq hW3, nMu_eq hW]; simp only [nRank]; omega)
  | false =>
    rw [hx, if_neg (by simp)] at hnf
    replace hnf := Aside0.mk hnf
    go_wp2_with (first
      | (go_at_call 148; refine (at_n hV2 (by omega) (by omega)).mono ?_; rintro e w3 ⟨rfl, hW3, _⟩; have hc3 := cellAll hW3.str; have hd3 := cellAll hW3.idx; have hf3 := frozenAll hW3.idx)
      | ((with_reducible refine gate_builtin (b := .append) (xs := #[.tmp 39, .tmp 42]) rfl ?_); at_builtin; refine print_append_num (w0 := w) w.heap.size rfl (.tmp 39) (.tmp 42) 49 5 .u8 1 rfl Tryz.underlying49 (by kernel_rfl) (by decide) v bs (byteAt s i : Int) rfl rfl hW1.own hW1.low (by have := hW1.le; omega) (by omega) ?_; intro v1 w2 hown hlow hg hat; have hW2 := hW1.append hown hg hlow; clear hown hlow hg hat; have hc2 := cellAll hW2.str; have hd2 := cellAll hW2.idx; have hf2 := frozenAll hW2.idx; have hV2 := hW2.set_ (i + 1); rw [show (((i + 1 : Nat) : Int)) = (i : Int) + 1 by omega] at hV2)
      | (go_at_call 148; refine (at_n hW (by omega) (by omega)).mono ?_; rintro e w1 ⟨rfl, hW1, _⟩; have hc1 := cellAll hW1.str; have hd1 := cellAll hW1.idx; have hf1 := frozenAll hW1.idx)
      | (go_at_call 149; refine (isDigit_n _ _).mono ?_; rintro e w' ⟨rfl, hw⟩; rw [hw]; clear hw))
    rename_i K hK
    exact wp_label (hK _ _ ((pass0 s w fin).fall rfl ⟨i + 1, neg, _, 0, 1, 0, v1, ⟨rfl, rfl, rfl, rfl, rfl, rfl, rfl, rfl, rfl, rfl⟩, hW3, ⟨hsz, by omega, by rw [List.length_append]; show bs.length + 1 ≤ i + 1; omega, by omega, by omega, .inl rfl, by omega, by omega⟩, ⟨rfl, rfl, rfl, hnf.out⟩⟩ (by rw [nMu_eq hW3, nMu_eq hW]; simp only [nRank]; omega) hj0.out))
end Go.Proofs.YtkdeleafgailhaaGreatDoor
end
