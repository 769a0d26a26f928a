/- dec.numeral: the whole; dec.Parse. -/
import Derived.Test.YtkdeleafgailhaaGreatDoorN13
import Derived.Test.YtkdeleafgailhaaGreatDoorN8
section
set_option linter.unusedVariables false
set_option linter.unusedSimpArgs false
namespace Go.Proofs.YtkdeleafgailhaaGreatDoor
open Go Go.RowKit Go.Proofs.YtkdeleafgailhaaGreatDoorW.PrintWords

theorem all_passes (s : ByteArray) (w : World) (fin : Option (Bool × List Int × Int)) (l : Nat) (a : Act) (W : World) (h : NJ s w fin l a W) : ∃ rest, findLabel numC l = some rest ∧ rest.wp Tryz.prog (jumps (fun l' a' W' => NJ s w fin l' a' W' ∧ nMu s w l' W' < nMu s w l W) (NPost w fin)) a W := by
  have key : ∀ l, NPass s w fin l → NJ s w fin l a W → ∃ rest, findLabel numC l = some rest ∧ rest.wp Tryz.prog (jumps (fun l' a' W' => NJ s w fin l' a' W' ∧ nMu s w l' W' < nMu s w l W) (NPost w fin)) a W := by
    rintro l ⟨more, hf, hp⟩ hJ
    exact ⟨_, hf, wp_seq (wp_skip (hp a W hJ _ (fun l' a' W' h1 h2 => ⟨h1, h2⟩)))⟩
  have hno : NJ s w fin 1 a W → fin = none := by
    rintro ⟨i, neg, bs, exp, sign, tens, v, _, _, _, hL⟩
    exact hL
  match l, h with
  | 0, h => exact key 0 (pass0 s w fin) h
  | 1, h =>
    obtain rfl := hno h
    exact key 1 (pass1 s w) h
  | 2, h => exact key 2 (pass2 s w fin) h
  | 3, h => exact key 3 (pass3 s w fin) h
  | 4, h => exact key 4 (pass4 s w fin) h
  | 5, h => exact key 5 (pass5 s w fin) h
  | 6, h => exact key 6 (pass6 s w fin) h
  | l + 7, ⟨i, neg, bs, exp, sign, tens, v, _, _, _, hL⟩ => exact hL.elim

set_option maxRecDepth 100000 in
set_option maxHeartbeats 8000000 in
theorem numeral_any (s : ByteArray) (w : World) (hsz : s.size ≤ 1048576) : Calls Tryz.prog 134 #[.string s] w fun e w' => NumGives w (numeral s) e w' := by
  have hW : NW s w 0 (.slice none 0 0) [] ((w.alloc (.cells #[.string s] 9)).alloc (.cells #[.int .i64 0] 3)) := by
    refine ⟨?_, ?_, ⟨rfl, .inl ⟨rfl, rfl⟩⟩, ((Below.refl _ w).alloc (Nat.le_refl _) _).alloc (by simp) _⟩
    · exact (((Below.refl _ (w.alloc (.cells #[.string s] 9))).alloc (Nat.le_refl _) (.cells #[.int .i64 0] 3)).block w.heap.size (by simp)).trans (heap_alloc_new w _)
    · have := heap_alloc_new (w.alloc (.cells #[.string s] 9)) (.cells #[.int .i64 0] 3)
      simpa using this
  obtain ⟨fin, hfin⟩ : ∃ fin, numeral s = fin := ⟨_, rfl⟩
  rw [hfin]
  unfold numeral at hfin
  go_enter Tryz.func134, Tryz.ntmps134
  go_wp2_with fail
  refine wp_scope_labels (NJ s w fin) (fun l _ W => nMu s w l W) ?_ (fun l a W h => all_passes s w fin l a W h)
  have hj0 : Aside0 (∀ l' a' W', NJ s w fin l' a' W' → NJ s w fin l' a' W') := ⟨fun _ _ _ h => h⟩
  obtain ⟨v, hv⟩ : ∃ v : Value, v = .slice none 0 0 := ⟨_, rfl⟩
  by_cases c0 : byteAt s 0 = 45
  · rw [if_pos c0] at hfin
    have b1 : ((byteAt s 0 : Int) == 45) = true := by simp; omega
    have hin0 : 0 < s.size := byteAt_in (by omega)
    have hin1 : (0 : Int) < (s.size : Int) := by omega
    clear c0
    unfold nNum at hfin
    by_cases c1 : byteAt s 1 = 48
    · rw [if_pos c1] at hfin
      have b2 : ((byteAt s 1 : Int) == 48) = true := by simp; omega
      have hin2 : 1 < s.size := byteAt_in (by omega)
      clear c1
      replace hfin := Aside0.mk hfin
      go_wp2_with (first
        | ((with_reducible refine gate_builtin (b := .append) (xs := #[.tmp 26, .tmp 27]) rfl ?_); at_builtin; refine print_append_num (w0 := w) w.heap.size rfl (.tmp 26) (.tmp 27) 49 5 .u8 1 rfl Tryz.underlying49 (by kernel_rfl) (by decide) (.slice none 0 0) [] 48 rfl rfl hW2.own hW2.low (by have := hW2.le; omega) (by simp) ?_; intro v1 w3 hown hlow hg hat; have hW3 := hW2.append hown hg hlow; clear hown hlow hg hat; have hc3 := cellAll hW3.str; have hd3 := cellAll hW3.idx; have hf3 := frozenAll hW3.idx; have hV3 := hW3.set_ 2; rw [show (((2 : Nat) : Int)) = (2 : Int) by omega] at hV3)
        | (go_at_call 148; refine (at_n hV1 (by omega) (by omega)).mono ?_; rintro e w2 ⟨rfl, hW2, _⟩; have hc2 := cellAll hW2.str; have hd2 := cellAll hW2.idx; have hf2 := frozenAll hW2.idx)
        | (go_at_call 148; refine (at_n hW (by omega) (by omega)).mono ?_; rintro e w1 ⟨rfl, hW1, _⟩; have hc1 := cellAll hW1.str; have hd1 := cellAll hW1.idx; have hf1 := frozenAll hW1.idx; have hV1 := hW1.set_ 1; rw [show (((1 : Nat) : Int)) = (1 : Int) by omega] at hV1))
      go_step3
      exact hj0.out 0 _ _ ⟨2, true, [48], 0, 1, 0, v1, ⟨rfl, rfl, rfl, rfl, rfl, rfl, rfl, rfl, rfl, rfl⟩, hV3, ⟨hsz, by omega, by simp, by omega, by omega, .inl rfl, by omega, by omega⟩, ⟨rfl, rfl, rfl, hfin.out⟩⟩
    rw [if_neg c1] at hfin
    have b2 : ((byteAt s 1 : Int) == 48) = false := by simp; omega
    by_cases c2 : byteAt s 1 < 49 ∨ 57 < byteAt s 1
    · rw [if_pos c2] at hfin
      replace hfin := Aside0.mk hfin
      by_cases c3 : byteAt s 1 < 49
      · have b3 : decide ((byteAt s 1 : Int) < 49) = true := by simp; omega
        clear c1 c2 c3
        go_wp2_with (first
          | (go_at_call 148; refine (at_n hW2 (by omega) (by omega)).mono ?_; rintro e w3 ⟨rfl, hW3, _⟩; have hc3 := cellAll hW3.str; have hd3 := cellAll hW3.idx; have hf3 := frozenAll hW3.idx)
          | (go_at_call 148; refine (at_n hV1 (by omega) (by omega)).mono ?_; rintro e w2 ⟨rfl, hW2, _⟩; have hc2 := cellAll hW2.str; have hd2 := cellAll hW2.idx; have hf2 := frozenAll hW2.idx)
          | (go_at_call 148; refine (at_n hW (by omega) (by omega)).mono ?_; rintro e w1 ⟨rfl, hW1, _⟩; have hc1 := cellAll hW1.str; have hd1 := cellAll hW1.idx; have hf1 := frozenAll hW1.idx; have hV1 := hW1.set_ 1; rw [show (((1 : Nat) : Int)) = (1 : Int) by omega] at hV1))
        go_step3
        exact hj0.out 1 _ _ ⟨1, true, [], 0, 1, 0, .slice none 0 0, ⟨rfl, rfl, rfl, rfl, rfl, rfl, rfl, rfl, rfl, rfl⟩, hW3, ⟨hsz, by omega, by simp, by omega, by omega, .inl rfl, by omega, by omega⟩, hfin.out.symm⟩
      · have b3 : decide ((byteAt s 1 : Int) < 49) = false := by simp; omega
        have b4 : decide (57 < (byteAt s 1 : Int)) = true := by simp; omega
        clear c1 c2 c3
        go_wp2_with (first
          | (go_at_call 148; refine (at_n hW3 (by omega) (by omega)).mono ?_; rintro e w4 ⟨rfl, hW4, _⟩; have hc4 := cellAll hW4.str; have hd4 := cellAll hW4.idx; have hf4 := frozenAll hW4.idx)
          | (go_at_call 148; refine (at_n hW2 (by omega) (by omega)).mono ?_; rintro e w3 ⟨rfl, hW3, _⟩; have hc3 := cellAll hW3.str; have hd3 := cellAll hW3.idx; have hf3 := frozenAll hW3.idx)
          | (go_at_call 148; refine (at_n hV1 (by omega) (by omega)).mono ?_; rintro e w2 ⟨rfl, hW2, _⟩; have hc2 := cellAll hW2.str; have hd2 := cellAll hW2.idx; have hf2 := frozenAll hW2.idx)
          | (go_at_call 148; refine (at_n hW (by omega) (by omega)).mono ?_; rintro e w1 ⟨rfl, hW1, _⟩; have hc1 := cellAll hW1.str; have hd1 := cellAll hW1.idx; have hf1 := frozenAll hW1.idx; have hV1 := hW1.set_ 1; rw [show (((1 : Nat) : Int)) = (1 : Int) by omega] at hV1))
        go_step3
        exact hj0.out 1 _ _ ⟨1, true, [], 0, 1, 0, .slice none 0 0, ⟨rfl, rfl, rfl, rfl, rfl, rfl, rfl, rfl, rfl, rfl⟩, hW4, ⟨hsz, by omega, by simp, by omega, by omega, .inl rfl, by omega, by omega⟩, hfin.out.symm⟩
    · rw [if_neg c2] at hfin
      have hin2 : 1 < s.size := byteAt_in (by omega)
      replace hfin := Aside0.mk hfin
      have b3 : decide ((byteAt s 1 : Int) < 49) = false := by simp; omega
      have b4 : decide (57 < (byteAt s 1 : Int)) = false := by simp; omega
      clear c1 c2
      go_wp2_with (first
        | (go_at_call 148; refine (at_n hW3 (by omega) (by omega)).mono ?_; rintro e w4 ⟨rfl, hW4, _⟩; have hc4 := cellAll hW4.str; have hd4 := cellAll hW4.idx; have hf4 := frozenAll hW4.idx)
        | (go_at_call 148; refine (at_n hW2 (by omega) (by omega)).mono ?_; rintro e w3 ⟨rfl, hW3, _⟩; have hc3 := cellAll hW3.str; have hd3 := cellAll hW3.idx; have hf3 := frozenAll hW3.idx)
        | (go_at_call 148; refine (at_n hV1 (by omega) (by omega)).mono ?_; rintro e w2 ⟨rfl, hW2, _⟩; have hc2 := cellAll hW2.str; have hd2 := cellAll hW2.idx; have hf2 := frozenAll hW2.idx)
        | (go_at_call 148; refine (at_n hW (by omega) (by omega)).mono ?_; rintro e w1 ⟨rfl, hW1, _⟩; have hc1 := cellAll hW1.str; have hd1 := cellAll hW1.idx; have hf1 := frozenAll hW1.idx; have hV1 := hW1.set_ 1; rw [show (((1 : Nat) : Int)) = (1 : Int) by omega] at hV1))
      rename_i K hK
      exact wp_label (hK _ _ ((pass2 s w fin).fall rfl ⟨1, true, [], 0, 1, 0, .slice none 0 0, ⟨rfl, rfl, rfl, rfl, rfl, rfl, rfl, rfl, rfl, rfl⟩, hW4, ⟨hsz, by omega, by simp, by omega, by omega, .inl rfl, by omega, by omega⟩, ⟨rfl, rfl, rfl, hin2, s.size + 1, by omega, hfin.out⟩⟩ (Nat.le_refl _) (fun l' a' W' h _ => h)))
  · rw [if_neg c0] at hfin
    have b1 : ((byteAt s 0 : Int) == 45) = false := by simp; omega
    clear c0
    unfold nNum at hfin
    by_cases c1 : byteAt s 0 = 48
    · rw [if_pos c1] at hfin
      have b2 : ((byteAt s 0 : Int) == 48) = true := by simp; omega
      have hin2 : 0 < s.size := byteAt_in (by omega)
      clear c1
      replace hfin := Aside0.mk hfin
      go_wp2_with (first
        | ((with_reducible refine gate_builtin (b := .append) (xs := #[.tmp 26, .tmp 27]) rfl ?_); at_builtin; refine print_append_num (w0 := w) w.heap.size rfl (.tmp 26) (.tmp 27) 49 5 .u8 1 rfl Tryz.underlying49 (by kernel_rfl) (by decide) (.slice none 0 0) [] 48 rfl rfl hW2.own hW2.low (by have := hW2.le; omega) (by simp) ?_; intro v1 w3 hown hlow hg hat; have hW3 := hW2.append hown hg hlow; clear hown hlow hg hat; have hc3 := cellAll hW3.str; have hd3 := cellAll hW3.idx; have hf3 := frozenAll hW3.idx; have hV3 := hW3.set_ 1; rw [show (((1 : Nat) : Int)) = (1 : Int) by omega] at hV3)
        | (go_at_call 148; refine (at_n hW1 (by omega) (by omega)).mono ?_; rintro e w2 ⟨rfl, hW2, _⟩; have hc2 := cellAll hW2.str; have hd2 := cellAll hW2.idx; have hf2 := frozenAll hW2.idx)
        | (go_at_call 148; refine (at_n hW (by omega) (by omega)).mono ?_; rintro e w1 ⟨rfl, hW1, _⟩; have hc1 := cellAll hW1.str; have hd1 := cellAll hW1.idx; have hf1 := frozenAll hW1.idx))
      go_step3
      exact hj0.out 0 _ _ ⟨1, false, [48], 0, 1, 0, v1, ⟨rfl, rfl, rfl, rfl, rfl, rfl, rfl, rfl, rfl, rfl⟩, hV3, ⟨hsz, by omega, by simp, by omega, by omega, .inl rfl, by omega, by omega⟩, ⟨rfl, rfl, rfl, hfin.out⟩⟩
    rw [if_neg c1] at hfin
    have b2 : ((byteAt s 0 : Int) == 48) = false := by simp; omega
    by_cases c2 : byteAt s 0 < 49 ∨ 57 < byteAt s 0
    · rw [if_pos c2] at hfin
      replace hfin := Aside0.mk hfin
      by_cases c3 : byteAt s 0 < 49
      · have b3 : decide ((byteAt s 0 : Int) < 49) = true := by simp; omega
        clear c1 c2 c3
        go_wp2_with (first
          | (go_at_call 148; refine (at_n hW2 (by omega) (by omega)).mono ?_; rintro e w3 ⟨rfl, hW3, _⟩; have hc3 := cellAll hW3.str; have hd3 := cellAll hW3.idx; have hf3 := frozenAll hW3.idx)
          | (go_at_call 148; refine (at_n hW1 (by omega) (by omega)).mono ?_; rintro e w2 ⟨rfl, hW2, _⟩; have hc2 := cellAll hW2.str; have hd2 := cellAll hW2.idx; have hf2 := frozenAll hW2.idx)
          | (go_at_call 148; refine (at_n hW (by omega) (by omega)).mono ?_; rintro e w1 ⟨rfl, hW1, _⟩; have hc1 := cellAll hW1.str; have hd1 := cellAll hW1.idx; have hf1 := frozenAll hW1.idx))
        go_step3
        exact hj0.out 1 _ _ ⟨0, false, [], 0, 1, 0, .slice none 0 0, ⟨rfl, rfl, rfl, rfl, rfl, rfl, rfl, rfl, rfl, rfl⟩, hW3, ⟨hsz, by omega, by simp, by omega, by omega, .inl rfl, by omega, by omega⟩, hfin.out.symm⟩
      · have b3 : decide ((byteAt s 0 : Int) < 49) = false := by simp; omega
        have b4 : decide (57 < (byteAt s 0 : Int)) = true := by simp; omega
        clear c1 c2 c3
        go_wp2_with (first
          | (go_at_call 148; refine (at_n hW3 (by omega) (by omega)).mono ?_; rintro e w4 ⟨rfl, hW4, _⟩; have hc4 := cellAll hW4.str; have hd4 := cellAll hW4.idx; have hf4 := frozenAll hW4.idx)
          | (go_at_call 148; refine (at_n hW2 (by omega) (by omega)).mono ?_; rintro e w3 ⟨rfl, hW3, _⟩; have hc3 := cellAll hW3.str; have hd3 := cellAll hW3.idx; have hf3 := frozenAll hW3.idx)
          | (go_at_call 148; refine (at_n hW1 (by omega) (by omega)).mono ?_; rintro e w2 ⟨rfl, hW2, _⟩; have hc2 := cellAll hW2.str; have hd2 := cellAll hW2.idx; have hf2 := frozenAll hW2.idx)
          | (go_at_call 148; refine (at_n hW (by omega) (by omega)).mono ?_; rintro e w1 ⟨rfl, hW1, _⟩; have hc1 := cellAll hW1.str; have hd1 := cellAll hW1.idx; have hf1 := frozenAll hW1.idx))
        go_step3
        exact hj0.out 1 _ _ ⟨0, false, [], 0, 1, 0, .slice none 0 0, ⟨rfl, rfl, rfl, rfl, rfl, rfl, rfl, rfl, rfl, rfl⟩, hW4, ⟨hsz, by omega, by simp, by omega, by omega, .inl rfl, by omega, by omega⟩, hfin.out.symm⟩
    · rw [if_neg c2] at hfin
      have hin2 : 0 < s.size := byteAt_in (by omega)
      replace hfin := Aside0.mk hfin
      have b3 : decide ((byteAt s 0 : Int) < 49) = false := by simp; omega
      have b4 : decide (57 < (byteAt s 0 : Int)) = false := by simp; omega
      clear c1 c2
      go_wp2_with (first
        | (go_at_call 148; refine (at_n hW3 (by omega) (by omega)).mono ?_; rintro e w4 ⟨rfl, hW4, _⟩; have hc4 := cellAll hW4.str; have hd4 := cellAll hW4.idx; have hf4 := frozenAll hW4.idx)
        | (go_at_call 148; refine (at_n hW2 (by omega) (by omega)).mono ?_; rintro e w3 ⟨rfl, hW3, _⟩; have hc3 := cellAll hW3.str; have hd3 := cellAll hW3.idx; have hf3 := frozenAll hW3.idx)
        | (go_at_call 148; refine (at_n hW1 (by omega) (by omega)).mono ?_; rintro e w2 ⟨rfl, hW2, _⟩; have hc2 := cellAll hW2.str; have hd2 := cellAll hW2.idx; have hf2 := frozenAll hW2.idx)
        | (go_at_call 148; refine (at_n hW (by omega) (by omega)).mono ?_; rintro e w1 ⟨rfl, hW1, _⟩; have hc1 := cellAll hW1.str; have hd1 := cellAll hW1.idx; have hf1 := frozenAll hW1.idx))
      rename_i K hK
      exact wp_label (hK _ _ ((pass2 s w fin).fall rfl ⟨0, false, [], 0, 1, 0, .slice none 0 0, ⟨rfl, rfl, rfl, rfl, rfl, rfl, rfl, rfl, rfl, rfl⟩, hW4, ⟨hsz, by omega, by simp, by omega, by omega, .inl rfl, by omega, by omega⟩, ⟨rfl, rfl, rfl, hin2, s.size + 1, by omega, hfin.out⟩⟩ (Nat.le_refl _) (fun l' a' W' h _ => h)))
end Go.Proofs.YtkdeleafgailhaaGreatDoor
end
