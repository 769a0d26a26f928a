/- voyageref02.follows, letter: a letter's bytes. There and back, plainly: numbers. A letter's bytes by the decoding; what voyageref02.Clean gives, plainly. voyageref02.Clean: json's clean. voyageref01: cut, digits: the digits of a text, the least one first. voyageref01.told, Norm: dec's one form. -/
import Derived.Test.YtkdeleafgailhaaGreatDoorN23
import Derived.Test.YtkdeleafgailhaaGreatDoorN11
import Derived.Test.YtkdeleafgailhaaGreatDoorN17
section
set_option linter.unusedVariables false
set_option linter.unusedSimpArgs false
namespace Go.Proofs.YtkdeleafgailhaaGreatDoor
open Go Go.RowKit Go.Proofs.YtkdeleafgailhaaGreatDoorW.PrintWords

def foll (s : ByteArray) (i lo hi : Nat) : Bool := decide (i < s.size) && (decide (lo ≤ byteAt s i) && decide (byteAt s i ≤ hi))
def letLo (c : Nat) : Nat := if c = 224 then 160 else if c = 240 then 144 else 128
def letHi (c : Nat) : Nat := if c = 237 then 159 else if c = 244 then 143 else 191
/-- How many bytes the letter at a place has; 0: none begins there. -/
def letterN (s : ByteArray) (i : Nat) : Nat :=
  if byteAt s i < 128 then 1
  else if byteAt s i < 194 ∨ 244 < byteAt s i then 0
  else if byteAt s i < 224 ∧ foll s (i + 1) (letLo (byteAt s i)) (letHi (byteAt s i)) = true then 2
  else if 224 ≤ byteAt s i ∧ byteAt s i < 240 ∧ foll s (i + 1) (letLo (byteAt s i)) (letHi (byteAt s i)) = true ∧ foll s (i + 2) 128 191 = true then 3
  else if 240 ≤ byteAt s i ∧ foll s (i + 1) (letLo (byteAt s i)) (letHi (byteAt s i)) = true ∧ foll s (i + 2) 128 191 = true ∧ foll s (i + 3) 128 191 = true then 4
  else 0

set_option maxRecDepth 100000 in
set_option maxHeartbeats 4000000 in
theorem follows_any (s : ByteArray) (i lo hi : Nat) (w : World) (hs : s.size ≤ 9223372036854775807) :
    Calls Tryz.prog 103 #[.string s, .int .i64 i, .int .u8 lo, .int .u8 hi] w fun e w' => e = .returned (.bool (foll s i lo hi)) ∧ w' = w := by
  unfold foll
  by_cases h : i < s.size
  · have h1 : (i : Int) < (s.size : Int) := by omega
    have hb : (s[i]'h).toNat = byteAt s i := by unfold byteAt; rw [dif_pos h]
    have hd : decide (i < s.size) = true := decide_eq_true h
    rw [hd, Bool.true_and]
    by_cases h2 : lo ≤ byteAt s i
    · have h3 : (lo : Int) ≤ ((s[i]'h).toNat : Int) := by omega
      rw [decide_eq_true h2, Bool.true_and]
      go_enter Tryz.func103, Tryz.ntmps103
      go_wp2_with fail
      go_ret
      refine ⟨?_, rfl⟩
      simp [hb]
    · have h3 : ¬ (lo : Int) ≤ ((s[i]'h).toNat : Int) := by omega
      rw [decide_eq_false h2, Bool.false_and]
      go_enter Tryz.func103, Tryz.ntmps103
      go_wp2_with fail
      go_ret
      exact ⟨rfl, rfl⟩
  · have h1 : ¬ (i : Int) < (s.size : Int) := by omega
    rw [decide_eq_false h, Bool.false_and]
    go_enter Tryz.func103, Tryz.ntmps103
    go_wp2_with fail
    go_ret
    exact ⟨rfl, rfl⟩

set_option maxRecDepth 100000 in
set_option maxHeartbeats 8000000 in
theorem letter_any (s : ByteArray) (i : Nat) (w : World) (hs : s.size ≤ 4611686018427387904) (hi : i < s.size) :
    Calls Tryz.prog 73 #[.string s, .int .i64 i] w fun e w' => e = .returned (.int .i64 (letterN s i)) ∧ w' = w := by
  have hb : (s[i]'hi).toNat = byteAt s i := by unfold byteAt; rw [dif_pos hi]
  have hi2 : (i : Int) < (s.size : Int) := by omega
  have cF := fun (j lo hi : Nat) (W : World) => follows_any s j lo hi W (by omega)
  unfold letterN
  generalize hc : byteAt s i = c at *
  by_cases h1 : c < 128
  · rw [if_pos h1]
    have b1 : (c : Int) < 128 := by omega
    go_enter Tryz.func73, Tryz.ntmps73
    go_wp2_with fail
    go_ret
    exact ⟨rfl, rfl⟩
  rw [if_neg h1]
  have b1 : ¬ (c : Int) < 128 := by omega
  by_cases h2 : c < 194 ∨ 244 < c
  · rw [if_pos h2]
    have b2 : (c : Int) < 194 ∨ (¬ (c : Int) < 194 ∧ (244 : Int) < (c : Int)) := by omega
    rcases b2 with b2 | ⟨b2, b3⟩
    all_goals go_enter Tryz.func73, Tryz.ntmps73
    all_goals go_wp2_with fail
    all_goals go_ret
    all_goals exact ⟨rfl, rfl⟩
  rw [if_neg h2]
  have b2 : ¬ (c : Int) < 194 := by omega
  have b3 : ¬ (244 : Int) < (c : Int) := by omega
  have c2 := cF (i + 1) (letLo c) (letHi c)
  have c3 := cF (i + 2) 128 191
  have c4 := cF (i + 3) 128 191
  rw [show (((i + 1 : Nat) : Int)) = (i : Int) + 1 by omega] at c2
  rw [show (((i + 2 : Nat) : Int)) = (i : Int) + 2 by omega] at c3
  rw [show (((i + 3 : Nat) : Int)) = (i : Int) + 3 by omega] at c4
  have hcase : (c < 224) ∨ (c = 224) ∨ ((225 ≤ c ∧ c < 237) ∨ (238 ≤ c ∧ c < 240)) ∨ (c = 237) ∨ (c = 240) ∨ (241 ≤ c ∧ c < 244) ∨ (c = 244) := by omega
  generalize foll s (i + 1) (letLo c) (letHi c) = f2 at *
  generalize foll s (i + 2) 128 191 = f3 at *
  generalize foll s (i + 3) 128 191 = f4 at *
  rcases hcase with h | h | h | h | h | h | h
  · have l1 : letLo c = 128 := by unfold letLo; rw [if_neg (by omega), if_neg (by omega)]
    have l2 : letHi c = 191 := by unfold letHi; rw [if_neg (by omega), if_neg (by omega)]
    rw [l1, l2] at c2
    have e224 : ((c : Int) == 224) = false := by simp; omega
    have e237 : ((c : Int) == 237) = false := by simp; omega
    have e240 : ((c : Int) == 240) = false := by simp; omega
    have e244 : ((c : Int) == 244) = false := by simp; omega
    have g1 : (c : Int) < 224 := by omega
    have g2 : ¬ (224 : Int) ≤ (c : Int) := by omega
    have g3 : ¬ (240 : Int) ≤ (c : Int) := by omega
    cases f2 <;> cases f3 <;> cases f4
    all_goals go_enter Tryz.func73, Tryz.ntmps73
    all_goals go_wp2_with (first | (go_at_call 103; have k4 := k3; refine (c4 _).mono ?_; rintro e w' ⟨rfl, rfl⟩) | (go_at_call 103; have k3 := k2; refine (c3 _).mono ?_; rintro e w' ⟨rfl, rfl⟩) | (go_at_call 103; have k2 := trivial; refine (c2 _).mono ?_; rintro e w' ⟨rfl, rfl⟩))
    all_goals go_ret
    all_goals (refine ⟨?_, rfl⟩; congr 2 <;> (try simp) <;> (try omega))
  · have l1 : letLo c = 160 := by unfold letLo; rw [if_pos h]
    have l2 : letHi c = 191 := by unfold letHi; rw [if_neg (by omega), if_neg (by omega)]
    rw [l1, l2] at c2
    subst h
    cases f2 <;> cases f3 <;> cases f4
    all_goals go_enter Tryz.func73, Tryz.ntmps73
    all_goals go_wp2_with (first | (go_at_call 103; have k4 := k3; refine (c4 _).mono ?_; rintro e w' ⟨rfl, rfl⟩) | (go_at_call 103; have k3 := k2; refine (c3 _).mono ?_; rintro e w' ⟨rfl, rfl⟩) | (go_at_call 103; have k2 := trivial; refine (c2 _).mono ?_; rintro e w' ⟨rfl, rfl⟩))
    all_goals go_ret
    all_goals (refine ⟨?_, rfl⟩; congr 2 <;> (try simp) <;> (try omega))
  · have l1 : letLo c = 128 := by unfold letLo; rw [if_neg (by omega), if_neg (by omega)]
    have l2 : letHi c = 191 := by unfold letHi; rw [if_neg (by omega), if_neg (by omega)]
    rw [l1, l2] at c2
    have e224 : ((c : Int) == 224) = false := by simp; omega
    have e237 : ((c : Int) == 237) = false := by simp; omega
    have e240 : ((c : Int) == 240) = false := by simp; omega
    have e244 : ((c : Int) == 244) = false := by simp; omega
    have g1 : ¬ (c : Int) < 224 := by omega
    have g2 : (224 : Int) ≤ (c : Int) := by omega
    have g3 : (c : Int) < 240 := by omega
    have g4 : ¬ (240 : Int) ≤ (c : Int) := by omega
    cases f2 <;> cases f3 <;> cases f4
    all_goals go_enter Tryz.func73, Tryz.ntmps73
    all_goals go_wp2_with (first | (go_at_call 103; have k4 := k3; refine (c4 _).mono ?_; rintro e w' ⟨rfl, rfl⟩) | (go_at_call 103; have k3 := k2; refine (c3 _).mono ?_; rintro e w' ⟨rfl, rfl⟩) | (go_at_call 103; have k2 := trivial; refine (c2 _).mono ?_; rintro e w' ⟨rfl, rfl⟩))
    all_goals go_ret
    all_goals (refine ⟨?_, rfl⟩; congr 2 <;> (try simp) <;> (try omega))
  · have l1 : letLo c = 128 := by unfold letLo; rw [if_neg (by omega), if_neg (by omega)]
    have l2 : letHi c = 159 := by unfold letHi; rw [if_pos h]
    rw [l1, l2] at c2
    subst h
    cases f2 <;> cases f3 <;> cases f4
    all_goals go_enter Tryz.func73, Tryz.ntmps73
    all_goals go_wp2_with (first | (go_at_call 103; have k4 := k3; refine (c4 _).mono ?_; rintro e w' ⟨rfl, rfl⟩) | (go_at_call 103; have k3 := k2; refine (c3 _).mono ?_; rintro e w' ⟨rfl, rfl⟩) | (go_at_call 103; have k2 := trivial; refine (c2 _).mono ?_; rintro e w' ⟨rfl, rfl⟩))
    all_goals go_ret
    all_goals (refine ⟨?_, rfl⟩; congr 2 <;> (try simp) <;> (try omega))
  · have l1 : letLo c = 144 := by unfold letLo; rw [if_neg (by omega), if_pos h]
    have l2 : letHi c = 191 := by unfold letHi; rw [if_neg (by omega), if_neg (by omega)]
    rw [l1, l2] at c2
    subst h
    cases f2 <;> cases f3 <;> cases f4
    all_goals go_enter Tryz.func73, Tryz.ntmps73
    all_goals go_wp2_with (first | (go_at_call 103; have k4 := k3; refine (c4 _).mono ?_; rintro e w' ⟨rfl, rfl⟩) | (go_at_call 103; have k3 := k2; refine (c3 _).mono ?_; rintro e w' ⟨rfl, rfl⟩) | (go_at_call 103; have k2 := trivial; refine (c2 _).mono ?_; rintro e w' ⟨rfl, rfl⟩))
    all_goals go_ret
    all_goals (refine ⟨?_, rfl⟩; congr 2 <;> (try simp) <;> (try omega))
  · have l1 : letLo c = 128 := by unfold letLo; rw [if_neg (by omega), if_neg (by omega)]
    have l2 : letHi c = 191 := by unfold letHi; rw [if_neg (by omega), if_neg (by omega)]
    rw [l1, l2] at c2
    have e224 : ((c : Int) == 224) = false := by simp; omega
    have e237 : ((c : Int) == 237) = false := by simp; omega
    have e240 : ((c : Int) == 240) = false := by simp; omega
    have e244 : ((c : Int) == 244) = false := by simp; omega
    have g1 : ¬ (c : Int) < 224 := by omega
    have g2 : (224 : Int) ≤ (c : Int) := by omega
    have g3 : ¬ (c : Int) < 240 := by omega
    have g4 : (240 : Int) ≤ (c : Int) := by omega
    cases f2 <;> cases f3 <;> cases f4
    all_goals go_enter Tryz.func73, Tryz.ntmps73
    all_goals go_wp2_with (first | (go_at_call 103; have k4 := k3; refine (c4 _).mono ?_; rintro e w' ⟨rfl, rfl⟩) | (go_at_call 103; have k3 := k2; refine (c3 _).mono ?_; rintro e w' ⟨rfl, rfl⟩) | (go_at_call 103; have k2 := trivial; refine (c2 _).mono ?_; rintro e w' ⟨rfl, rfl⟩))
    all_goals go_ret
    all_goals (refine ⟨?_, rfl⟩; congr 2 <;> (try simp) <;> (try omega))
  · have l1 : letLo c = 128 := by unfold letLo; rw [if_neg (by omega), if_neg (by omega)]
    have l2 : letHi c = 143 := by unfold letHi; rw [if_neg (by omega), if_pos h]
    rw [l1, l2] at c2
    subst h
    cases f2 <;> cases f3 <;> cases f4
    all_goals go_enter Tryz.func73, Tryz.ntmps73
    all_goals go_wp2_with (first | (go_at_call 103; have k4 := k3; refine (c4 _).mono ?_; rintro e w' ⟨rfl, rfl⟩) | (go_at_call 103; have k3 := k2; refine (c3 _).mono ?_; rintro e w' ⟨rfl, rfl⟩) | (go_at_call 103; have k2 := trivial; refine (c2 _).mono ?_; rintro e w' ⟨rfl, rfl⟩))
    all_goals go_ret
    all_goals (refine ⟨?_, rfl⟩; congr 2 <;> (try simp) <;> (try omega))
end Go.Proofs.YtkdeleafgailhaaGreatDoor
end
section
set_option linter.unusedVariables false
set_option linter.unusedSimpArgs false
namespace Go.Proofs.YtkdeleafgailhaaGreatDoor
open Go Go.RowKit

/-! ### the one form of numbers -/
/-- A number in its one form. -/
def NumN (neg : Bool) (ds : ByteArray) (ex : Int) : Prop :=
  (neg = false ∧ ds = ⟨#[]⟩ ∧ ex = 0) ∨
  ((∀ c ∈ ds.data.toList, 48 ≤ c.toNat ∧ c.toNat ≤ 57) ∧ (∃ c q, ds.data.toList = c :: q ∧ c ≠ 48) ∧ (∃ c q, ds.data.toList.reverse = c :: q ∧ c ≠ 48) ∧ -9999 ≤ ex ∧ ex ≤ 9999)
theorem dropWhile_head {α : Type} (p : α → Bool) : ∀ (l : List α), l.dropWhile p = [] ∨ ∃ c q, l.dropWhile p = c :: q ∧ p c = false
  | [] => .inl rfl
  | a :: l => by
    rw [List.dropWhile_cons]
    cases h : p a with
    | true => exact dropWhile_head p l
    | false => exact .inr ⟨a, l, rfl, h⟩
theorem dropWhile_nil {α : Type} (p : α → Bool) : ∀ (l : List α), l.dropWhile p = [] → ∀ x ∈ l, p x = true
  | [], _, x, hx => by cases hx
  | a :: l, h, x, hx => by
    rw [List.dropWhile_cons] at h
    cases ha : p a with
    | true =>
      rw [ha] at h
      rcases List.mem_cons.1 hx with rfl | hx
      · exact ha
      · exact dropWhile_nil p l h x hx
    | false => rw [ha] at h; cases h
theorem beq48 (c : UInt8) : (c == 48) = false ↔ c ≠ 48 := by simp
theorem numN_form (neg : Bool) (ds : ByteArray) (ex : Int) : NumN (decForm neg ds ex).1.neg (decForm neg ds ex).1.digits (decForm neg ds ex).1.exp := by
  have hb := (decForm_bounds neg ds ex).2
  unfold decForm at hb ⊢
  split
  · exact .inl ⟨rfl, rfl, rfl⟩
  · rename_i h0
    split
    · exact .inl ⟨rfl, rfl, rfl⟩
    · split
      · exact .inl ⟨rfl, rfl, rfl⟩
      · rename_i h1 h2
        rw [if_neg h0, if_neg h1, if_neg h2] at hb
        refine .inr ?_
        show (∀ c ∈ (decShort (decBare ds)).data.toList, 48 ≤ c.toNat ∧ c.toNat ≤ 57) ∧ (∃ c q, (decShort (decBare ds)).data.toList = c :: q ∧ c ≠ 48) ∧ (∃ c q, (decShort (decBare ds)).data.toList.reverse = c :: q ∧ c ≠ 48) ∧ _
        have hB : (decBare ds).data.toList = (ds.data.toList.filter isDigitB).dropWhile (· == 48) := by rw [decBare_eq]
        have hS : (decShort (decBare ds)).data.toList = ((decBare ds).data.toList.reverse.dropWhile (· == 48)).reverse := by unfold decShort Lib.trimRightB; rfl
        have hdig : ∀ c ∈ (decBare ds).data.toList, 48 ≤ c.toNat ∧ c.toNat ≤ 57 := by
          intro c hc
          rw [hB] at hc
          have := (List.mem_filter.1 ((List.dropWhile_sublist _).subset hc)).2
          unfold isDigitB at this
          simp only [Bool.and_eq_true, decide_eq_true_eq] at this
          exact this
        have hne : (decBare ds).data.toList ≠ [] := by
          intro e
          apply h0
          have : (decBare ds).data.toList.length = (decBare ds).size := Array.length_toList
          rw [e] at this
          exact this.symm
        obtain ⟨c0, q0, e0, hc0⟩ : ∃ c q, (decBare ds).data.toList = c :: q ∧ c ≠ 48 := by
          rcases dropWhile_head (fun b : UInt8 => b == 48) (ds.data.toList.filter isDigitB) with h | ⟨c, q, h, hc⟩
          · rw [hB] at hne; exact absurd h hne
          · exact ⟨c, q, by rw [hB]; exact h, (beq48 c).1 hc⟩
        have hlast : ∃ c q, (decBare ds).data.toList.reverse.dropWhile (· == 48) = c :: q ∧ c ≠ 48 := by
          rcases dropWhile_head (fun b : UInt8 => b == 48) (decBare ds).data.toList.reverse with h | ⟨c, q, h, hc⟩
          · exfalso
            have : ∀ x ∈ (decBare ds).data.toList.reverse, (x == 48) = true := by
              intro x hx
              exact dropWhile_nil _ _ h x hx
            have h2 := this c0 (by rw [List.mem_reverse, e0]; exact .head _)
            exact hc0 (by simpa using h2)
          · exact ⟨c, q, h, (beq48 c).1 hc⟩
        refine ⟨?_, ?_, ?_, hb⟩
        · intro c hc
          rw [hS, List.mem_reverse] at hc
          exact hdig c (List.mem_reverse.1 ((List.dropWhile_sublist _).subset hc))
        · obtain ⟨c, q, e, hc⟩ := hlast
          obtain ⟨r, hr⟩ : ∃ r, r ++ (decBare ds).data.toList.reverse.dropWhile (· == 48) = (decBare ds).data.toList.reverse := (List.dropWhile_suffix _)
          have h3 : (decShort (decBare ds)).data.toList ++ r.reverse = c0 :: q0 := by
            rw [hS, ← e0, ← List.reverse_append, hr, List.reverse_reverse]
          cases hd : (decShort (decBare ds)).data.toList with
          | nil => rw [hS, e] at hd; simp at hd
          | cons a b =>
            rw [hd] at h3
            injection h3 with h4 h5
            subst h4
            exact ⟨a, b, rfl, hc0⟩
        · obtain ⟨c, q, e, hc⟩ := hlast
          exact ⟨c, q, by rw [hS, List.reverse_reverse]; exact e, hc⟩
theorem numN_bare {ds : ByteArray} (hd : ∀ c ∈ ds.data.toList, 48 ≤ c.toNat ∧ c.toNat ≤ 57) (h : ∃ c q, ds.data.toList = c :: q ∧ c ≠ 48) : decBare ds = ds := by
  rw [decBare_eq]
  have e1 : ds.data.toList.filter isDigitB = ds.data.toList := List.filter_eq_self.2 (fun c hc => by unfold isDigitB; simp [hd c hc])
  rw [e1]
  obtain ⟨c, q, e, hc⟩ := h
  have e2 : ds.data.toList.dropWhile (· == 48) = ds.data.toList := by rw [e, List.dropWhile_cons, (beq48 c).2 hc]; rfl
  rw [e2]
theorem numN_short {ds : ByteArray} (h : ∃ c q, ds.data.toList.reverse = c :: q ∧ c ≠ 48) : decShort ds = ds := by
  unfold decShort Lib.trimRightB
  obtain ⟨c, q, e, hc⟩ := h
  have e2 : ds.data.toList.reverse.dropWhile (· == 48) = ds.data.toList.reverse := by rw [e, List.dropWhile_cons, (beq48 c).2 hc]; rfl
  rw [e2, List.reverse_reverse]
theorem form_numN {neg : Bool} {ds : ByteArray} {ex : Int} (h : NumN neg ds ex) : decForm neg ds ex = (⟨neg, ds, ex⟩, true) := by
  rcases h with ⟨rfl, rfl, rfl⟩ | ⟨h1, h2, h3, h4, h5⟩
  · rfl
  · unfold decForm
    rw [numN_bare h1 h2]
    have hz : decDrop ds = 0 := by unfold decDrop; rw [numN_short h3]; omega
    have hne : ds.size ≠ 0 := by
      obtain ⟨c, q, e, _⟩ := h2
      have : ds.data.toList.length = ds.size := Array.length_toList
      rw [e] at this
      simp at this
      omega
    rw [if_neg hne, hz, if_neg (by omega), if_neg (by omega), numN_short h3]
    simp
/-! ### digits are read -/
/-! ### a numeral is read -/
theorem byteAt_end {s : ByteArray} {i : Nat} (h : s.size ≤ i) : byteAt s i = 0 := by
  unfold byteAt
  rw [dif_neg (by omega)]
theorem strOf_back (l : List UInt8) : strOfNums (l.map fun x => (x.toNat : Int)) = ⟨l.toArray⟩ := by
  unfold strOfNums
  congr 2
  rw [List.map_map]
  conv => rhs; rw [← List.map_id l]
  apply List.map_congr_left
  intro x _
  simp
/-! ### a number within a text -/
end Go.Proofs.YtkdeleafgailhaaGreatDoor
end
section
set_option linter.unusedVariables false
set_option linter.unusedSimpArgs false
namespace Go.Proofs.YtkdeleafgailhaaGreatDoor
open Go Go.RowKit

theorem byteAt_bang (s : ByteArray) (j : Nat) : byteAt s j = (s.get! j).toNat := by
  by_cases h : j < s.size
  · exact byteAt_get h
  · rw [byteAt_end (by omega)]
    show 0 = (s.data[j]!).toNat
    rw [getElem!_neg s.data j (by show ¬ j < s.size; exact h)]
    rfl
/-- letter, by the bytes. -/
def letterB (n b0 b1 b2 b3 : Nat) : Nat :=
  if b0 < 128 then 1
  else if b0 < 194 ∨ 244 < b0 then 0
  else if b0 < 224 ∧ (1 < n ∧ letLo b0 ≤ b1 ∧ b1 ≤ letHi b0) then 2
  else if 224 ≤ b0 ∧ b0 < 240 ∧ (1 < n ∧ letLo b0 ≤ b1 ∧ b1 ≤ letHi b0) ∧ (2 < n ∧ 128 ≤ b2 ∧ b2 ≤ 191) then 3
  else if 240 ≤ b0 ∧ (1 < n ∧ letLo b0 ≤ b1 ∧ b1 ≤ letHi b0) ∧ (2 < n ∧ 128 ≤ b2 ∧ b2 ≤ 191) ∧ (3 < n ∧ 128 ≤ b3 ∧ b3 ≤ 191) then 4
  else 0
theorem letterN_B (s : ByteArray) (i : Nat) : letterN s i = letterB (s.size - i) (byteAt s i) (byteAt s (i + 1)) (byteAt s (i + 2)) (byteAt s (i + 3)) := by
  have e : ∀ k lo hi, foll s (i + k) lo hi = true ↔ (k < s.size - i ∧ lo ≤ byteAt s (i + k) ∧ byteAt s (i + k) ≤ hi) := by
    intro k lo hi
    unfold foll
    simp only [Bool.and_eq_true, decide_eq_true_eq]
    constructor
    · rintro ⟨a, b, c⟩; exact ⟨by omega, b, c⟩
    · rintro ⟨a, b, c⟩; exact ⟨by omega, b, c⟩
  unfold letterN letterB
  simp only [e]
set_option maxRecDepth 100000 in
set_option maxHeartbeats 4000000 in
theorem letterB_dec (n b0 b1 b2 b3 : Nat) (h0 : b0 < 256) (h1 : b1 < 256) (h2 : b2 < 256) (h3 : b3 < 256) (hn : 0 < n) :
    letterB n b0 b1 b2 b3 = if (Lib.decodeN n b0 b1 b2 b3).1 = 65533 ∧ (Lib.decodeN n b0 b1 b2 b3).2 = 1 then 0 else (Lib.decodeN n b0 b1 b2 b3).2 := by
  have hlo : letLo b0 = 160 ∧ b0 = 224 ∨ letLo b0 = 144 ∧ b0 = 240 ∨ letLo b0 = 128 ∧ b0 ≠ 224 ∧ b0 ≠ 240 := by
    unfold letLo
    split
    · exact .inl ⟨rfl, by assumption⟩
    · split
      · exact .inr (.inl ⟨rfl, by assumption⟩)
      · exact .inr (.inr ⟨rfl, by assumption, by assumption⟩)
  have hhi : letHi b0 = 159 ∧ b0 = 237 ∨ letHi b0 = 143 ∧ b0 = 244 ∨ letHi b0 = 191 ∧ b0 ≠ 237 ∧ b0 ≠ 244 := by
    unfold letHi
    split
    · exact .inl ⟨rfl, by assumption⟩
    · split
      · exact .inr (.inl ⟨rfl, by assumption⟩)
      · exact .inr (.inr ⟨rfl, by assumption, by assumption⟩)
  unfold letterB
  generalize letLo b0 = lo at *
  generalize letHi b0 = hi at *
  rcases Lib.decodeN_shape n b0 b1 b2 b3 with ⟨c, e⟩ | ⟨a1, a2, a3, av, e⟩ | ⟨a1, a2, a3, a4, av, ax, e⟩ | ⟨a1, a2, a3, a4, a5, av, aw, e⟩ | e
  · rw [e, if_pos c, if_neg (by simp only; omega)]
  · rw [e, if_neg (by omega), if_neg (by omega), if_pos (by omega), if_neg (by simp only; omega)]
  · rw [e, if_neg (by omega), if_neg (by omega), if_neg (by omega), if_pos (by omega), if_neg (by simp only; omega)]
  · rw [e, if_neg (by omega), if_neg (by omega), if_neg (by omega), if_neg (by omega), if_pos (by omega), if_neg (by simp only; omega)]
  · have hb := e
    unfold Lib.decodeN at hb
    rw [e]
    show _ = (0 : Nat)
    by_cases k1 : b0 < 128
    · rw [if_pos k1] at hb
      have := congrArg Prod.fst hb
      simp only at this
      omega
    rw [if_neg k1] at hb ⊢
    by_cases k2 : b0 < 194 ∨ 244 < b0
    · rw [if_pos k2]
    rw [if_neg k2]
    by_cases k3 : b0 < 224 ∧ 1 < n ∧ lo ≤ b1 ∧ b1 ≤ hi
    · exfalso
      rw [if_pos (by omega), if_pos (by omega)] at hb
      have := congrArg Prod.snd hb
      simp only at this
      omega
    rw [if_neg k3]
    by_cases k4 : 224 ≤ b0 ∧ b0 < 240 ∧ (1 < n ∧ lo ≤ b1 ∧ b1 ≤ hi) ∧ 2 < n ∧ 128 ≤ b2 ∧ b2 ≤ 191
    · exfalso
      rw [if_neg (by omega), if_pos (by omega), if_pos (by omega)] at hb
      have := congrArg Prod.snd hb
      simp only at this
      omega
    rw [if_neg k4]
    by_cases k5 : 240 ≤ b0 ∧ (1 < n ∧ lo ≤ b1 ∧ b1 ≤ hi) ∧ (2 < n ∧ 128 ≤ b2 ∧ b2 ≤ 191) ∧ 3 < n ∧ 128 ≤ b3 ∧ b3 ≤ 191
    · exfalso
      rw [if_neg (by omega), if_neg (by omega), if_pos (by omega), if_pos (by omega)] at hb
      have := congrArg Prod.snd hb
      simp only at this
      omega
    rw [if_neg k5]
/-- How many bytes a letter has, by the decoding. -/
theorem letterN_dec {s : ByteArray} {i : Nat} (hi : i < s.size) : letterN s i = if (Utf8.decode s i).1 = 65533 ∧ (Utf8.decode s i).2 = 1 then 0 else (Utf8.decode s i).2 := by
  rw [letterN_B, letterB_dec _ _ _ _ _ (byteAt_lt _ _) (byteAt_lt _ _) (byteAt_lt _ _) (byteAt_lt _ _) (by omega), Lib.decode_at, byteAt_bang, byteAt_bang, byteAt_bang, byteAt_bang]

/-! ### Clean -/
/-- What Clean gathers from a place on. -/
theorem cleanFrom_step {s : ByteArray} {pos fuel : Nat} (h : pos < s.size) : cleanFrom s (fuel + 1) pos = (if letterN s pos = 0 then [239, 191, 189] else (s.data.toList.drop pos).take (letterN s pos)) ++ cleanFrom s fuel (pos + (if letterN s pos = 0 then 1 else letterN s pos)) := by
  rw [cleanFrom, if_pos h, letterN_dec h, decode_drop]
  have hlen : (s.data.toList.drop pos).length = s.size - pos := by rw [List.length_drop, Array.length_toList]; rfl
  have hne : s.data.toList.drop pos ≠ [] := by intro e; rw [e] at hlen; simp at hlen; omega
  by_cases hb : (Lib.decodeL (s.data.toList.drop pos)).1 = 65533 ∧ (Lib.decodeL (s.data.toList.drop pos)).2 = 1
  · rw [if_pos hb, if_pos rfl, if_pos rfl, hb.1, hb.2]
    rfl
  · have hp : 1 ≤ (Lib.decodeL (s.data.toList.drop pos)).2 := by rw [Lib.decodeL_N]; exact decodeN_pos _ _ _ _ _
    rw [if_neg hb, if_neg (by omega), if_neg (by omega), Lib.encode_decode _ hne hb]
/-- A valid text is gathered as it is. -/
theorem cleanFrom_of_valid (s : ByteArray) : ∀ (fuel pos : Nat), s.size ≤ pos + fuel → pos ≤ s.size → Lib.validD (s.data.toList.drop pos) = true → cleanFrom s fuel pos = s.data.toList.drop pos
  | fuel, pos, hf, hp, hv => by
    have hlen : (s.data.toList.drop pos).length = s.size - pos := by rw [List.length_drop, Array.length_toList]; rfl
    by_cases h : pos < s.size
    · obtain ⟨fuel, rfl⟩ : ∃ m, fuel = m + 1 := ⟨fuel - 1, by omega⟩
      have hne : s.data.toList.drop pos ≠ [] := by intro e; rw [e] at hlen; simp at hlen; omega
      rw [Lib.validD_step _ hne] at hv
      have hgood : ¬ ((Lib.decodeL (s.data.toList.drop pos)).1 = 65533 ∧ (Lib.decodeL (s.data.toList.drop pos)).2 = 1) := by
        intro hb; rw [if_pos hb] at hv; cases hv
      rw [if_neg hgood] at hv
      have hw : (Lib.decodeL (s.data.toList.drop pos)).2 ≤ s.size - pos ∧ 1 ≤ (Lib.decodeL (s.data.toList.drop pos)).2 := by
        rw [Lib.decodeL_N, ← hlen]
        exact ⟨Lib.decodeN_width_le _ _ _ _ _ (by omega), decodeN_pos _ _ _ _ _⟩
      rw [cleanFrom, if_pos h, decode_drop, Lib.encode_decode _ hne hgood, cleanFrom_of_valid s fuel _ (by omega) (by omega) (by rw [← List.drop_drop]; exact hv), ← List.drop_drop, List.take_append_drop]
    · have e : s.data.toList.drop pos = [] := List.eq_nil_of_length_eq_zero (by omega)
      rw [e]
      cases fuel with
      | zero => rfl
      | succ m => rw [cleanFrom, if_neg h]
theorem clean_eq (s : ByteArray) : clean s = ⟨(cleanFrom s s.size 0).toArray⟩ := by
  unfold clean
  split
  · rename_i h
    rw [cleanFrom_of_valid s s.size 0 (by omega) (by omega) (by simpa using h)]
    simp
  · rfl
end Go.Proofs.YtkdeleafgailhaaGreatDoor
end
section
set_option linter.unusedVariables false
set_option linter.unusedSimpArgs false
namespace Go.Proofs.YtkdeleafgailhaaGreatDoor
open Go Go.RowKit Go.Proofs.YtkdeleafgailhaaGreatDoorW.PrintWords

def nat8 (l : List UInt8) : List Int := l.map fun x => (x.toNat : Int)
theorem nat8_len (l : List UInt8) : (nat8 l).length = l.length := by unfold nat8; rw [List.length_map]
theorem nat8_app (a b : List UInt8) : nat8 (a ++ b) = nat8 a ++ nat8 b := by unfold nat8; rw [List.map_append]
theorem letterN_le {s : ByteArray} {i : Nat} (hi : i < s.size) : i + letterN s i ≤ s.size := by
  rw [letterN_dec hi]
  split
  · omega
  · exact (decode_width_le s i hi).1
/-- More fuel gathers the same. -/
theorem cleanFrom_fuel (s : ByteArray) : ∀ (n m pos : Nat), s.size ≤ pos + n → s.size ≤ pos + m → cleanFrom s n pos = cleanFrom s m pos
  | n, m, pos, hn, hm => by
    by_cases h : pos < s.size
    · obtain ⟨n, rfl⟩ : ∃ k, n = k + 1 := ⟨n - 1, by omega⟩
      obtain ⟨m, rfl⟩ : ∃ k, m = k + 1 := ⟨m - 1, by omega⟩
      have hp : 1 ≤ (Utf8.decode s pos).2 := by rw [decode_drop, Lib.decodeL_N]; exact decodeN_pos _ _ _ _ _
      rw [cleanFrom, cleanFrom, if_pos h, if_pos h, cleanFrom_fuel s n m _ (by omega) (by omega)]
    · have e : ∀ k, cleanFrom s k pos = [] := fun k => by
        cases k with
        | zero => rfl
        | succ k => rw [cleanFrom, if_neg h]
      rw [e, e]
theorem extract_bytes (s : ByteArray) (i n : Nat) (h : i + n ≤ s.size) : bytesOf (s.extract i (i + n)) = nat8 ((s.data.toList.drop i).take n) := by
  unfold bytesOf nat8
  have h1 := Has.part s i n h
  have hl : ((s.data.toList.drop i).take n).length = n := by
    have h5 : s.data.toList.length = s.size := Array.length_toList
    rw [List.length_take, List.length_drop, h5]; omega
  have h2 := h1.extract
  rw [hl] at h2
  rw [h2]

set_option maxRecDepth 100000 in
set_option maxHeartbeats 8000000 in
/-- **voyageref02.Clean.** -/
theorem rClean_any (s : ByteArray) (w : World) (hs : s.size ≤ 17592186044416) :
    Calls Tryz.prog 37 #[.string s] w fun e w' => e = .returned (.string (clean s)) ∧ Below w.heap.size w w' := by
  rw [clean_eq]
  go_enter Tryz.func37, Tryz.ntmps37
  go_wp2_with fail
  go_loopw [3, 4] (fun v i wr => ∃ (pos : Nat) (L : List UInt8), i = .int .i64 pos ∧ pos ≤ s.size ∧ L.length ≤ 3 * pos ∧ wr.ownsRow w.heap.size 5 1 v (nat8 L).length (nums .u8 (nat8 L)) ∧ Below w.heap.size w wr ∧ Aside0 (L ++ cleanFrom s (s.size - pos) pos = cleanFrom s s.size 0)) (fun _ i _ => s.size - (intOf i).toNat)
  case atStart => exact ⟨0, [], rfl, Nat.zero_le _, by simp, own_nil _ _ _ _, Below.refl _ _, ⟨rfl⟩⟩
  case round =>
    obtain ⟨pos, L, rfl, hp, hL, hown, hB, hA⟩ := hrel
    by_cases hlt : pos < s.size
    · have hlt2 : (pos : Int) < (s.size : Int) := by omega
      have cL := fun W => letter_any s pos W (by omega) hlt
      have hle := letterN_le hlt
      have hst := cleanFrom_step (fuel := s.size - pos - 1) hlt
      rw [show s.size - pos - 1 + 1 = s.size - pos by omega] at hst
      have hex := extract_bytes s pos (letterN s pos) hle
      have hnl := nat8_len L
      generalize hn : letterN s pos = n at *
      by_cases hz : n = 0
      · subst hz
        rw [if_pos rfl, if_pos rfl] at hst
        have hA2 : Aside0 ((L ++ [239, 191, 189]) ++ cleanFrom s (s.size - (pos + 1)) (pos + 1) = cleanFrom s s.size 0) := ⟨by
          have := hA.out
          rw [hst] at this
          rw [List.append_assoc, ← this]
          congr 2⟩
        have hbn : Below wr.heap.size wr (wr.alloc (.cells #[.int .u8 239, .int .u8 191, .int .u8 189] 5)) := (Below.refl wr.heap.size wr).alloc (Nat.le_refl _) _
        have hnew := cellAll (heap_alloc_new wr (.cells #[.int .u8 239, .int .u8 191, .int .u8 189] 5))
        have hRI : ReadsInt (wr.alloc (.cells #[.int .u8 239, .int .u8 191, .int .u8 189] 5)) .u8 (some ⟨wr.heap.size, 0, none⟩) 3 (nat8 [239, 191, 189]) := ⟨rfl, by decide, fun _ => ⟨_, rfl, fun j hj => by
          rcases j with _ | _ | _ | j
          · exact hnew 0
          · exact hnew 1
          · exact hnew 2
          · omega⟩⟩
        replace hnew := Aside0.mk hnew
        replace hst := Aside0.mk hst
        clear hex
        go_wp2_with (first
          | ((with_reducible refine gate_builtin (b := .append) (xs := #[.tmp 15, .tmp 16]) rfl ?_); at_builtin; refine print_append_row (w0 := w) w.heap.size rfl (.tmp 15) (.tmp 16) 49 5 .u8 1 rfl Tryz.underlying49 (by kernel_rfl) (by decide) _ (nat8 L) (nat8 [239, 191, 189]) _ 3 3 rfl rfl (pw_own_below hown hbn) hRI (hB.trans (hbn.mono hB.size)) (by have := hB.size; have := hbn.size; omega) (by omega) ?_; intro v1 w1 hown1 hB1 hg1 hat1; clear hg1 hat1)
          | (go_at_call 73; refine (cL _).mono ?_; rintro e w' ⟨rfl, rfl⟩))
        go_roundw
        case rel => exact ⟨pos + 1, L ++ [239, 191, 189], by go_num, by omega, by rw [List.length_append]; simp; omega, by rw [nat8_app]; exact hown1, hB1, hA2⟩
        case measure => simp [intOf]; omega
      · rw [if_neg hz, if_neg hz] at hst
        have hz2 : ((n : Int) == 0) = false := by simp; omega
        have hcf := cleanFrom_fuel s (s.size - pos - 1) (s.size - (pos + n)) (pos + n) (by omega) (by omega)
        have hA2 : Aside0 ((L ++ (s.data.toList.drop pos).take n) ++ cleanFrom s (s.size - (pos + n)) (pos + n) = cleanFrom s s.size 0) := ⟨by
          have := hA.out
          rw [hst] at this
          rw [List.append_assoc, ← this, hcf]⟩
        have hw1 : IntKind.i64.wrap ((pos : Int) + (n : Int)) = ((pos + n : Nat) : Int) := by rw [IntKind.wrap_i64]; omega
        have hle1 : (pos : Int) ≤ ((pos + n : Nat) : Int) := by omega
        have hle2 : ((pos + n : Nat) : Int) ≤ (s.size : Int) := by omega
        have hle3 : (0 : Int) ≤ (pos : Int) := by omega
        have hpn : (((pos + n : Nat) : Int)) = (pos : Int) + (n : Int) := by omega
        have hls : ((s.data.toList.drop pos).take n).length = n := by
          have h5 : s.data.toList.length = s.size := Array.length_toList
          rw [List.length_take, List.length_drop, h5]; omega
        have hxs : (s.extract pos (pos + n)).size = n := by rw [ByteArray.size_extract]; omega
        replace hst := Aside0.mk hst
        replace hcf := Aside0.mk hcf
        replace hex := Aside0.mk hex
        replace hls := Aside0.mk hls
        replace hxs := Aside0.mk hxs
        go_wp2_with (first
          | ((with_reducible refine gate_builtin (b := .append) (xs := #[.tmp 20, .tmp 26]) rfl ?_); at_builtin; refine print_append_str (w0 := w) w.heap.size rfl (.tmp 20) (.tmp 26) 49 9 5 rfl Tryz.underlying49 Tryz.underlying9 (by kernel_rfl) _ (nat8 L) (s.extract pos (pos + n)) rfl rfl hown hB (by have := hB.size; omega) (by rw [hxs.out]; omega) ?_; intro v1 w1 hown1 hB1 hg1; clear hg1)
          | (go_at_call 73; refine (cL _).mono ?_; rintro e w' ⟨rfl, rfl⟩))
        go_roundw
        case rel => exact ⟨pos + n, L ++ (s.data.toList.drop pos).take n, by go_num, by omega, by rw [List.length_append, hls.out]; omega, by rw [nat8_app, ← hex.out]; exact hown1, hB1, hA2⟩
        case measure => simp [intOf]; omega
    · obtain rfl : pos = s.size := by omega
      have hlt2 : decide ((s.size : Int) < (s.size : Int)) = false := by simp
      have hcv := own_string (P := Tryz.prog) (src := 49) (dst := 9) (w := wr) (n := (nat8 L).length) (e' := 5) (e := 5) (base := w.heap.size) Tryz.underlying49 Tryz.underlying5 Tryz.underlying9 hown
      have hend : Aside0 (strOfNums (nat8 L) = ⟨(cleanFrom s s.size 0).toArray⟩) := ⟨by
        have h1 := hA.out
        rw [Nat.sub_self] at h1
        have h2 : cleanFrom s 0 s.size = [] := rfl
        rw [h2, List.append_nil] at h1
        rw [← h1]
        exact strOf_back L⟩
      go_wp2_with fail
      go_ret
      have he2 := hend.out
      refine ⟨?_, hB⟩
      show Ending.returned (.string (strOfNums (nat8 L))) = _
      rw [he2]
end Go.Proofs.YtkdeleafgailhaaGreatDoor
end
section
set_option linter.unusedVariables false
set_option linter.unusedSimpArgs false
namespace Go.Proofs.YtkdeleafgailhaaGreatDoor
open Go Go.RowKit Go.Proofs.YtkdeleafgailhaaGreatDoorW.PrintWords

/-- How many are left without noughts at the end. -/
def cutN (xs : List Int) : Nat → Nat
  | 0 => 0
  | k + 1 => if xs.getD k 0 = 0 then cutN xs k else k + 1
theorem cutN_le (xs : List Int) : ∀ n, cutN xs n ≤ n
  | 0 => Nat.le_refl _
  | k + 1 => by
    rw [cutN]
    split
    · have := cutN_le xs k; omega
    · omega
theorem info_int : ∃ i, Tryz.prog.info? 3 = some i ∧ i.size = 1 := Option.map_eq_some_iff.1 (show (Tryz.prog.info? 3).map (·.size) = some 1 by kernel_rfl)

set_option maxRecDepth 100000 in
set_option maxHeartbeats 4000000 in
theorem cut_any (xs : List Int) (A : Option Addr) (c : Nat) (w : World) (hR : ReadsInt w .i64 A xs.length xs) (hc : xs.length ≤ c) (hl : xs.length ≤ 4611686018427387904) :
    Calls Tryz.prog 104 #[.slice A xs.length c] w fun e w' => e = .returned (.slice A (cutN xs xs.length) c) ∧ w' = w := by
  obtain ⟨i, hi, hsz⟩ := info_int
  have hle := cutN_le xs xs.length
  obtain ⟨hT, _, _⟩ := print_take_int (k := .i64) (P := Tryz.prog) 44 3 Tryz.underlying44 hi hsz A c xs (cutN xs xs.length : Nat) (by omega) (by omega) hc
  rw [show (xs.take ((cutN xs xs.length : Nat) : Int).toNat).length = cutN xs xs.length by rw [List.length_take]; omega] at hT
  generalize hK : cutN xs xs.length = K at *
  generalize hN : xs.length = n at *
  replace hK := Aside0.mk hK
  replace hN := Aside0.mk hN
  go_enter Tryz.func104, Tryz.ntmps104
  go_wp2_with fail
  go_loopw [3] (fun q wr => ∃ k : Nat, q = .int .i64 k ∧ k ≤ n ∧ Aside0 (cutN xs k = K) ∧ wr = w) (fun q _ => (intOf q).toNat)
  case atStart => exact ⟨n, rfl, Nat.le_refl _, hK, rfl⟩
  case round =>
    obtain ⟨k, rfl, hk, hcut, rfl⟩ := hrel
    cases k with
    | zero =>
      have hK0 : K = 0 := hcut.out.symm
      subst hK0
      have hT0 := hT
      simp only [Int.natCast_zero] at hT0
      have hno : ¬ ((0 : Int) < ((0 : Nat) : Int)) := by omega
      go_wp2_with fail
      go_ret
      exact ⟨rfl, rfl⟩
    | succ k =>
      have hpos : (0 : Int) < ((k + 1 : Nat) : Int) := by omega
      obtain ⟨ad, hA, hcell⟩ := hR.at_ (k : Int) (by omega) (by omega)
      subst hA
      rw [Int.toNat_natCast] at hcell
      have hrd : rd xs (k : Int) = xs.getD k 0 := by unfold rd; rw [Int.toNat_natCast]
      rw [hrd] at hcell
      have hsub : IntKind.i64.wrap (((k + 1 : Nat) : Int) - 1) = (k : Int) := by rw [IntKind.wrap_i64]; omega
      have hk1 : ((k + 1 : Nat) : Int) = (k : Int) + 1 := by omega
      have hkn : (k : Int) < (n : Int) := by omega
      have hk0 : (0 : Int) ≤ (k : Int) := by omega
      rw [cutN] at hcut
      by_cases hz : xs.getD k 0 = 0
      · rw [if_pos hz] at hcut
        rw [hz] at hcell
        go_wp2_with fail
        go_roundw
        case rel => exact ⟨k, by go_num, by omega, hcut, by first | rfl | trivial⟩
        case measure => first | (simp [intOf]; done) | (simp [intOf]; omega)
      · rw [if_neg hz] at hcut
        have hz2 : (xs.getD k 0 == 0) = false := by simpa using hz
        have hK1 : K = k + 1 := hcut.out.symm
        subst hK1
        generalize xs.getD k 0 = z at *
        go_wp2_with fail
        go_ret
        exact ⟨rfl, rfl⟩

/-- The digits of bytes, the least one first. -/
def digL (l : List UInt8) : List Int := (l.reverse.filter isDigitB).map fun c => (c.toNat : Int) - 48
theorem digL_len (l : List UInt8) : (digL l).length ≤ l.length := by
  unfold digL
  rw [List.length_map]
  have := List.length_filter_le isDigitB l.reverse
  rw [List.length_reverse] at this
  exact this
theorem drop_cons (l : List UInt8) (k : Nat) (h : k < l.length) : l.drop k = l.getD k 0 :: l.drop (k + 1) := by
  rw [List.drop_eq_getElem_cons h, List.getD, List.getElem?_eq_getElem h]
  rfl
theorem digL_cons (c : UInt8) (l : List UInt8) : digL (c :: l) = digL l ++ (if isDigitB c = true then [(c.toNat : Int) - 48] else []) := by
  unfold digL
  rw [List.reverse_cons, List.filter_append, List.map_append]
  congr 1
  by_cases h : isDigitB c = true
  · rw [if_pos h, List.filter_cons, if_pos h]; rfl
  · rw [if_neg h, List.filter_cons, if_neg h]; rfl

set_option maxRecDepth 100000 in
set_option maxHeartbeats 8000000 in
theorem digits_any (s : ByteArray) (w : World) (hs : s.size ≤ 17592186044416) :
    Calls Tryz.prog 75 #[.string s] w fun e w' => ∃ A c, e = .returned (.slice A (cutN (digL s.data.toList) (digL s.data.toList).length) c) ∧ ReadsInt w' .i64 A (digL s.data.toList).length (digL s.data.toList) ∧ (digL s.data.toList).length ≤ c ∧ Below w.heap.size w w' := by
  have hlen : s.data.toList.length = s.size := Array.length_toList
  replace hlen := Aside0.mk hlen
  go_enter Tryz.func75, Tryz.ntmps75
  go_wp2_with fail
  go_loopw [3, 4] (fun v q wr => ∃ k : Nat, q = .int .i64 ((k : Int) - 1) ∧ k ≤ s.size ∧ wr.ownsRow w.heap.size 3 1 v (digL (s.data.toList.drop k)).length (nums .i64 (digL (s.data.toList.drop k))) ∧ Below w.heap.size w wr) (fun _ q _ => ((intOf q) + 1).toNat)
  case atStart =>
    refine ⟨s.size, rfl, Nat.le_refl _, ?_, Below.refl _ _⟩
    rw [List.drop_of_length_le (by rw [hlen.out]; exact Nat.le_refl _)]
    exact own_nil _ _ _ _
  case round =>
    obtain ⟨k, rfl, hk, hown, hB⟩ := hrel
    cases k with
    | zero =>
      have hno : ¬ ((0 : Int) ≤ ((0 : Nat) : Int) - 1) := by omega
      rw [List.drop_zero] at hown
      obtain ⟨A, c, rfl, hnc, hRI⟩ := own_reads_of_le (enc := Value.int .i64) (d := (0 : Int)) hown
      have hRI2 : ReadsInt wr .i64 A (digL s.data.toList).length (digL s.data.toList) := hRI
      have hdl := digL_len s.data.toList
      have cC := cut_any (digL s.data.toList) A c wr hRI2 hnc (by rw [hlen.out] at hdl; omega)
      go_wp2_with (go_at_call 104; refine cC.mono ?_; rintro e w' ⟨rfl, rfl⟩)
      go_ret
      exact ⟨A, c, rfl, hRI2, hnc, hB⟩
    | succ k =>
      have hkl : k < s.size := by omega
      have hbt : (s[k]'hkl).toNat = (s.data.toList.getD k 0).toNat := by
        rw [List.getD, List.getElem?_eq_getElem (by rw [hlen.out]; exact hkl)]
        rfl
      have hdc := drop_cons s.data.toList k (by rw [hlen.out]; exact hkl)
      have hq : ((k + 1 : Nat) : Int) - 1 = (k : Int) := by omega
      rw [hq]
      have hk0 : (0 : Int) ≤ (k : Int) := by omega
      have hk1 : (k : Int) < (s.size : Int) := by omega
      have hdl := digL_len (s.data.toList.drop (k + 1))
      rw [List.length_drop, hlen.out] at hdl
      have hstep := digL_cons (s.data.toList.getD k 0) (s.data.toList.drop (k + 1))
      rw [← hdc] at hstep
      generalize s.data.toList.getD k 0 = ch at *
      have hcl := UInt8.toNat_lt ch
      replace hdc := Aside0.mk hdc
      by_cases hd : isDigitB ch = true
      · have hd2 : 48 ≤ ch.toNat ∧ ch.toNat ≤ 57 := by unfold isDigitB at hd; simpa using hd
        rw [if_pos hd] at hstep
        replace hstep := Aside0.mk hstep
        have g1 : (48 : Int) ≤ (ch.toNat : Int) := by omega
        have g2 : (ch.toNat : Int) ≤ 57 := by omega
        have hwr : IntKind.u8.wrap ((ch.toNat : Int) - 48) = (ch.toNat : Int) - 48 := by unfold IntKind.wrap; simp [IntKind.signed, IntKind.bits]; omega
        go_wp2_with ((with_reducible refine gate_builtin (b := .append) (xs := #[.tmp 22, .tmp 28]) rfl ?_); at_builtin; refine print_append_num (w0 := w) w.heap.size rfl (.tmp 22) (.tmp 28) 44 3 .i64 8 rfl Tryz.underlying44 (by kernel_rfl) (by decide) _ (digL (s.data.toList.drop (k + 1))) ((ch.toNat : Int) - 48) rfl rfl hown hB (by have := hB.size; omega) (by omega) ?_; intro v1 w3 hown1 hB1 hg hat; clear hg hat)
        go_roundw
        case rel => exact ⟨k, by congr 1, by omega, by rw [hstep.out]; exact hown1, hB1⟩
        case measure => first | (simp [intOf]; done) | (simp [intOf]; omega)
      · have hd2 : ¬ (48 ≤ ch.toNat ∧ ch.toNat ≤ 57) := by unfold isDigitB at hd; simpa using hd
        rw [if_neg hd, List.append_nil] at hstep
        rw [← hstep] at hown
        replace hstep := Aside0.mk hstep
        have hor : ¬ (48 : Int) ≤ (ch.toNat : Int) ∨ ((48 : Int) ≤ (ch.toNat : Int) ∧ ¬ (ch.toNat : Int) ≤ 57) := by omega
        rcases hor with g1 | ⟨g1, g2⟩
        · go_wp2_with fail
          go_roundw
          case rel => exact ⟨k, by congr 1, by omega, hown, hB⟩
          case measure => first | (simp [intOf]; done) | (simp [intOf]; omega)
        · go_wp2_with fail
          go_roundw
          case rel => exact ⟨k, by congr 1, by omega, hown, hB⟩
          case measure => first | (simp [intOf]; done) | (simp [intOf]; omega)
end Go.Proofs.YtkdeleafgailhaaGreatDoor
end
section
set_option linter.unusedVariables false
set_option linter.unusedSimpArgs false
namespace Go.Proofs.YtkdeleafgailhaaGreatDoor
open Go Go.RowKit Go.Proofs.YtkdeleafgailhaaGreatDoorW.PrintWords

/-- How many noughts stand at the lower end. -/
def lowN : List Int → Nat
  | [] => 0
  | x :: xs => if x = 0 then lowN xs + 1 else 0
def byte48 (l : List Int) : List UInt8 := l.map fun x => UInt8.ofNat (x + 48).toNat
def toldF (neg : Bool) (up : List Int) (ex : Int) : Dec × Bool :=
  if up.length = 0 then (Dec.zero, true)
  else if ex < -9999 - (lowN up : Int) ∨ 9999 - (lowN up : Int) < ex then (Dec.zero, false)
  else (⟨neg, ⟨(byte48 (up.drop (lowN up)).reverse).toArray⟩, ex + lowN up⟩, true)
theorem lowN_zero : ∀ (xs : List Int) (j : Nat), j < lowN xs → xs.getD j 0 = 0
  | [], j, h => by rw [lowN] at h; omega
  | x :: xs, j, h => by
    rw [lowN] at h
    split at h
    · rename_i hx
      cases j with
      | zero => exact hx
      | succ j => exact lowN_zero xs j (by omega)
    · omega
theorem lowN_le : ∀ (xs : List Int), lowN xs ≤ xs.length
  | [] => Nat.le_refl _
  | x :: xs => by
    rw [lowN]
    have := lowN_le xs
    split <;> simp <;> omega
theorem lowN_stop : ∀ (xs : List Int), lowN xs < xs.length → xs.getD (lowN xs) 0 ≠ 0
  | [], h => by simp at h
  | x :: xs, h => by
    rw [lowN] at h ⊢
    split
    · rename_i hx
      rw [if_pos hx] at h
      exact lowN_stop xs (by simp at h; omega)
    · assumption
def asc (l : List Int) : List Int := l.map (· + 48)
theorem strOf_asc (l : List Int) : strOfNums (asc l) = ⟨(byte48 l).toArray⟩ := by
  unfold strOfNums asc byte48
  rw [List.map_map]
  rfl
theorem asc_len (l : List Int) : (asc l).length = l.length := by unfold asc; rw [List.length_map]
theorem rev_drop (xs : List Int) (k : Nat) (h : k < xs.length) : asc (xs.drop k).reverse = asc (xs.drop (k + 1)).reverse ++ [xs.getD k 0 + 48] := by
  rw [List.drop_eq_getElem_cons h, List.reverse_cons]
  unfold asc
  rw [List.map_append, List.getD, List.getElem?_eq_getElem h]
  rfl
theorem lowN_lt {xs : List Int} {j : Nat} (hj : j < xs.length) (h : xs.getD j 0 ≠ 0) : lowN xs < xs.length := by
  have := lowN_le xs
  apply Decidable.byContradiction
  intro hn
  exact h (lowN_zero xs j (by omega))

set_option maxRecDepth 100000 in
set_option maxHeartbeats 8000000 in
/-- told of digits whose upper end is no nought. -/
theorem told_any (neg : Bool) (xs : List Int) (A : Option Addr) (c : Nat) (ex : Int) (w : World) (hR : ReadsInt w .i64 A xs.length xs) (hc : xs.length ≤ c) (hl : xs.length ≤ 17592186044416) (hd : ∀ x ∈ xs, 0 ≤ x ∧ x ≤ 9) (hcut : cutN xs xs.length = xs.length)
    (hlow : xs.length ≠ 0 → lowN xs < xs.length) (hx0 : -9223372036854775808 ≤ ex) (hx1 : ex ≤ 9223372036854775807) :
    Calls Tryz.prog 74 #[.bool neg, .slice A xs.length c, .int .i64 ex] w fun e w' => e = .returned (.tuple #[.agg #[.bool (toldF neg xs ex).1.neg, .string (toldF neg xs ex).1.digits, .int .i64 (toldF neg xs ex).1.exp], .bool (toldF neg xs ex).2]) ∧ Below w.heap.size w w' := by
  obtain ⟨W0, hW0⟩ : ∃ W0, w.alloc (.cells #[.bool false, .string ⟨#[]⟩, .int .i64 0] 23) = W0 := ⟨_, rfl⟩
  have hB0 : Below w.heap.size w W0 := by rw [← hW0]; exact (Below.refl _ w).alloc (Nat.le_refl _) _
  have hbx : W0.heap[w.heap.size]? = some (.cells #[.bool false, .string ⟨#[]⟩, .int .i64 0] 23 (0, 0)) := by rw [← hW0]; exact heap_alloc_new w _
  have hR0 := hR.below hB0
  have hs0 : W0.heap.size = w.heap.size + 1 := by rw [← hW0]; exact Array.size_push _
  have cC := cut_any xs A c W0 hR0 hc (by omega)
  rw [hcut] at cC
  have hle := lowN_le xs
  unfold toldF
  generalize hN : xs.length = n at *
  replace hN := Aside0.mk hN
  replace hB0 := Aside0.mk hB0
  clear hR hcut
  by_cases hn0 : n = 0
  · rw [if_pos hn0]
    subst hn0
    have hc0 := cellAll hbx
    have hf0 := frozenAll hbx
    replace hbx := Aside0.mk hbx
    clear hlow
    go_enter Tryz.func74, Tryz.ntmps74
    go_wp2_with (go_at_call 104; refine cC.mono ?_; rintro e w' ⟨rfl, rfl⟩)
    refine bodyPost_ret (v := .tuple #[.agg #[.bool false, .string ⟨#[]⟩, .int .i64 0], .bool true]) (by simp [results, Tryz.results74, go_sem, hc0]) rfl ⟨rfl, ?_⟩
    refine below_set (below_set (below_set hB0.out (Nat.le_refl _)) (Nat.le_refl _)) (Nat.le_refl _)
  · rw [if_neg hn0]
    have hn1 : ((n : Int) == 0) = false := by simp; omega
    have hlw := hlow hn0
    clear hlow
    have hstop := lowN_stop xs (by rw [hN.out]; exact hlw)
    have hzero := lowN_zero xs
    obtain ⟨W, hWl⟩ : ∃ L, lowN xs = L := ⟨_, rfl⟩
    rw [hWl] at hlw hstop hzero ⊢
    obtain ⟨Rs, hRs⟩ : ∃ R : Dec × Bool, (if ex < -9999 - (W : Int) ∨ 9999 - (W : Int) < ex then ((Dec.zero, false) : Dec × Bool) else (⟨neg, ⟨(byte48 (xs.drop W).reverse).toArray⟩, ex + W⟩, true)) = R := ⟨_, rfl⟩
    rw [hRs]
    replace hRs := Aside0.mk hRs
    replace hWl := Aside0.mk hWl
    have hw1 : IntKind.i64.wrap (-9999 - (W : Int)) = -9999 - (W : Int) := by rw [IntKind.wrap_i64]; omega
    have hw2 : IntKind.i64.wrap (9999 - (W : Int)) = 9999 - (W : Int) := by rw [IntKind.wrap_i64]; omega
    replace hbx := Aside0.mk hbx
    replace hn0 := Aside0.mk hn0
    go_enter Tryz.func74, Tryz.ntmps74
    go_wp2_with (go_at_call 104; refine cC.mono ?_; rintro e w' ⟨rfl, hww⟩; rw [hww])
    go_loopw [9] (fun q wr => ∃ j : Nat, q = .int .i64 j ∧ j ≤ W ∧ wr = W0) (fun q _ => W - (intOf q).toNat)
    case atStart => exact ⟨0, rfl, Nat.zero_le _, rfl⟩
    case round =>
      obtain ⟨j, rfl, hj, hwr⟩ := hrel
      replace hwr := hwr.symm
      subst hwr
      obtain ⟨ad, hA, hcell⟩ := hR0.at_ (j : Int) (by omega) (by omega)
      subst hA
      rw [Int.toNat_natCast] at hcell
      have hrd : rd xs (j : Int) = xs.getD j 0 := by unfold rd; rw [Int.toNat_natCast]
      rw [hrd] at hcell
      have hj0 : (0 : Int) ≤ (j : Int) := by omega
      have hj1 : (j : Int) < (n : Int) := by omega
      by_cases hjl : j < W
      · have hz := hzero j hjl
        rw [hz] at hcell
        go_wp2_with fail
        go_roundw
        case rel => exact ⟨j + 1, by go_num, by omega, by first | rfl | trivial⟩
        case measure => first | (simp [intOf]; done) | (simp [intOf]; omega)
      · obtain rfl : W = j := by omega
        have hz2 : (xs.getD W 0 == 0) = false := by simpa using hstop
        generalize xs.getD W 0 = z at *
        replace hstop := Aside0.mk hstop
        have hor : ex < -9999 - (W : Int) ∨ (¬ ex < -9999 - (W : Int) ∧ 9999 - (W : Int) < ex) ∨ (¬ ex < -9999 - (W : Int) ∧ ¬ 9999 - (W : Int) < ex) := by omega
        have hc0 := cellAll hbx.out
        have hf0 := frozenAll hbx.out
        rcases hor with h1 | ⟨h1, h2⟩ | ⟨h1, h2⟩
        · obtain rfl : (Dec.zero, false) = Rs := by rw [← hRs.out, if_pos (Or.inl h1)]
          clear hRs
          go_wp2_with fail
          refine bodyPost_ret (v := .tuple #[.agg #[.bool false, .string ⟨#[]⟩, .int .i64 0], .bool false]) ?_ rfl ?_
          · simp [results, Tryz.results74, go_sem, hc0]
          refine ⟨rfl, ?_⟩
          refine below_set (below_set (below_set hB0.out (Nat.le_refl _)) (Nat.le_refl _)) (Nat.le_refl _)
        · obtain rfl : (Dec.zero, false) = Rs := by rw [← hRs.out, if_pos (Or.inr h2)]
          clear hRs
          go_wp2_with fail
          refine bodyPost_ret (v := .tuple #[.agg #[.bool false, .string ⟨#[]⟩, .int .i64 0], .bool false]) ?_ rfl ?_
          · simp [results, Tryz.results74, go_sem, hc0]
          refine ⟨rfl, ?_⟩
          refine below_set (below_set (below_set hB0.out (Nat.le_refl _)) (Nat.le_refl _)) (Nat.le_refl _)
        · obtain rfl : _ = Rs := by rw [← hRs.out, if_neg (fun h => h.elim h1 h2)]
          clear hRs
          go_wp2_with fail
          go_loopw [10, 11] (fun v q w1 => ∃ k : Nat, q = .int .i64 ((k : Int) - 1) ∧ W ≤ k ∧ k ≤ n ∧ w1.ownsRow (w.heap.size + 1) 5 1 v (asc (xs.drop k).reverse).length (nums .u8 (asc (xs.drop k).reverse)) ∧ Below (w.heap.size + 1) W0 w1) (fun _ q _ => ((intOf q) + 1).toNat)
          case atStart =>
            refine ⟨n, by congr 1, by omega, Nat.le_refl _, ?_, Below.refl _ _⟩
            rw [List.drop_of_length_le (by rw [hN.out]; exact Nat.le_refl _)]
            exact own_nil _ _ _ _
          case round =>
            obtain ⟨k, rfl, hk0, hk1, hown, hB⟩ := hrel
            by_cases hkW : W < k
            · obtain ⟨m, rfl⟩ : ∃ m, k = m + 1 := ⟨k - 1, by omega⟩
              obtain ⟨ad2, hA2, hcell2⟩ := (hR0.below (by rw [hs0]; exact hB)).at_ (m : Int) (by omega) (by omega)
              cases hA2
              rw [Int.toNat_natCast] at hcell2
              have hrd2 : rd xs (m : Int) = xs.getD m 0 := by unfold rd; rw [Int.toNat_natCast]
              rw [hrd2] at hcell2
              have hstep := rev_drop xs m (by rw [hN.out]; omega)
              have hdx : 0 ≤ xs.getD m 0 ∧ xs.getD m 0 ≤ 9 := hd _ (by rw [List.getD, List.getElem?_eq_getElem (by rw [hN.out]; omega)]; exact List.getElem_mem _)
              have hq : ((m + 1 : Nat) : Int) - 1 = (m : Int) := by omega
              rw [hq]
              have hm0 : (0 : Int) ≤ (m : Int) := by omega
              have hm1 : (m : Int) < (n : Int) := by omega
              have hge : (W : Int) ≤ (m : Int) := by omega
              have hal : (asc (xs.drop (m + 1)).reverse).length ≤ n := by rw [asc_len, List.length_reverse, List.length_drop, hN.out]; omega
              have hsz := hB.size
              generalize xs.getD m 0 = y at *
              generalize asc (xs.drop (m + 1)).reverse = bs at *
              replace hstep := Aside0.mk hstep
              clear hcell hrd hrd2
              have hcv : IntKind.u8.wrap (IntKind.i64.wrap (48 + y)) = y + 48 := by unfold IntKind.wrap; simp [IntKind.signed, IntKind.bits]; omega
              have hwy : IntKind.i64.wrap (48 + y) = 48 + y := by rw [IntKind.wrap_i64]; omega
              have hcv2 : IntKind.u8.wrap (48 + y) = y + 48 := by rw [hwy] at hcv; exact hcv
              go_wp2_with ((with_reducible refine gate_builtin (b := .append) (xs := #[.tmp 44, .tmp 51]) rfl ?_); at_builtin; refine print_append_num (w0 := W0) (w.heap.size + 1) rfl (.tmp 44) (.tmp 51) 49 5 .u8 1 rfl Tryz.underlying49 (by kernel_rfl) (by decide) _ bs (y + 48) rfl rfl hown hB (by omega) (by omega) ?_; intro v1 w3 hown1 hB1 hg hat; clear hg hat)
              go_roundw
              case rel => exact ⟨m, by congr 1, by omega, by omega, by rw [hstep.out]; exact hown1, hB1⟩
              case measure => first | (simp [intOf]; done) | (simp [intOf]; omega)
            · obtain rfl : W = k := by omega
              have hno : ¬ (W : Int) ≤ (W : Int) - 1 := by omega
              have hcv := own_string (P := Tryz.prog) (src := 49) (dst := 9) (w := wr) (n := (asc (xs.drop W).reverse).length) (e' := 5) (e := 5) (base := w.heap.size + 1) Tryz.underlying49 Tryz.underlying5 Tryz.underlying9 hown
              rw [strOf_asc] at hcv
              have hbx1 := (hB.block w.heap.size (by omega)).trans hbx.out
              have hc1 := cellAll hbx1
              have hf1 := frozenAll hbx1
              have hwe : IntKind.i64.wrap (ex + (W : Int)) = ex + W := by rw [IntKind.wrap_i64]; omega
              replace hbx1 := Aside0.mk hbx1
              obtain ⟨S, hS⟩ : ∃ S, byte48 (xs.drop W).reverse = S := ⟨_, rfl⟩
              rw [hS] at hcv
              replace hS := Aside0.mk hS
              generalize asc (xs.drop W).reverse = bs at *
              go_wp2_with fail
              refine bodyPost_ret (v := .tuple #[.agg #[.bool neg, .string ⟨S.toArray⟩, .int .i64 (ex + W)], .bool true]) ?_ rfl ?_
              · simp [results, Tryz.results74, go_sem, hc1]
              refine ⟨by rw [← hS.out], ?_⟩
              refine below_set (below_set (below_set ((hB0.out.trans (hB.mono (by omega)))) (Nat.le_refl _)) (Nat.le_refl _)) (Nat.le_refl _)
end Go.Proofs.YtkdeleafgailhaaGreatDoor
end
