/- voyageref02.follows, letter: a letter's bytes. There and back, plainly: numbers. A letter's bytes by the decoding; what voyageref02.Clean gives, plainly. voyageref02.Clean: json's clean. How deep what is read may be: plain. -/
import Derived.Test.YtmfijfcikecglaaGreatDoorH21
import Derived.Test.YtmfijfcikecglaaGreatDoorH11
import Derived.Test.YtmfijfcikecglaaGreatDoorH17
import Derived.Test.YtmfijfcikecglaaGreatDoorH20
import Derived.Test.YtmfijfcikecglaaGreatDoorH10
section
set_option linter.unusedVariables false
set_option linter.unusedSimpArgs false
namespace Go.Proofs.YtmfijfcikecglaaGreatDoor
open Go Go.RowKit Go.Proofs.YtmfijfcikecglaaGreatDoorW.PrintWords

def foll (s : ByteArray) (i lo hi : Nat) : Bool := decide (i < s.size) && (decide (lo ≤ byteAt s i) && decide (byteAt s i ≤ hi))
def letLo (c : Nat) : Nat := if c = 224 then 160 else if c = 240 then 144 else 128
def letHi (c : Nat) : Nat := if c = 237 then 159 else if c = 244 then 143 else 191
/-- How many bytes the letter at a place has; 0: none begins there. -/
def letterN (s : ByteArray) (i : Nat) : Nat :=
  if byteAt s i < 128 then 1
  else if byteAt s i < 194 ∨ 244 < byteAt s i then 0
  else if byteAt s i < 224 ∧ foll s (i + 1) (letLo (byteAt s i)) (letHi (byteAt s i)) = true then 2
  else if 224 ≤ byteAt s i ∧ byteAt s i < 240 ∧ foll s (i + 1) (letLo (byteAt s i)) (letHi (byteAt s i)) = true ∧ foll s (i + 2) 128 191 = true then 3
  else if 240 ≤ byteAt s i ∧ foll s (i + 1) (letLo (byteAt s i)) (letHi (byteAt s i)) = true ∧ foll s (i + 2) 128 191 = true ∧ foll s (i + 3) 128 191 = true then 4
  else 0

set_option maxRecDepth 100000 in
set_option maxHeartbeats 4000000 in
theorem follows_any (s : ByteArray) (i lo hi : Nat) (w : World) (hs : s.size ≤ 9223372036854775807) :
    Calls Tryz.prog 96 #[.string s, .int .i64 i, .int .u8 lo, .int .u8 hi] w fun e w' => e = .returned (.bool (foll s i lo hi)) ∧ w' = w := by
  unfold foll
  by_cases h : i < s.size
  · have h1 : (i : Int) < (s.size : Int) := by omega
    have hb : (s[i]'h).toNat = byteAt s i := by unfold byteAt; rw [dif_pos h]
    have hd : decide (i < s.size) = true := decide_eq_true h
    rw [hd, Bool.true_and]
    by_cases h2 : lo ≤ byteAt s i
    · have h3 : (lo : Int) ≤ ((s[i]'h).toNat : Int) := by omega
      rw [decide_eq_true h2, Bool.true_and]
      go_enter Tryz.func96, Tryz.ntmps96
      go_wp2_with fail
      go_ret
      refine ⟨?_, rfl⟩
      simp [hb]
    · have h3 : ¬ (lo : Int) ≤ ((s[i]'h).toNat : Int) := by omega
      rw [decide_eq_false h2, Bool.false_and]
      go_enter Tryz.func96, Tryz.ntmps96
      go_wp2_with fail
      go_ret
      exact ⟨rfl, rfl⟩
  · have h1 : ¬ (i : Int) < (s.size : Int) := by omega
    rw [decide_eq_false h, Bool.false_and]
    go_enter Tryz.func96, Tryz.ntmps96
    go_wp2_with fail
    go_ret
    exact ⟨rfl, rfl⟩

set_option maxRecDepth 100000 in
set_option maxHeartbeats 8000000 in
theorem letter_any (s : ByteArray) (i : Nat) (w : World) (hs : s.size ≤ 4611686018427387904) (hi : i < s.size) :
    Calls Tryz.prog 70 #[.string s, .int .i64 i] w fun e w' => e = .returned (.int .i64 (letterN s i)) ∧ w' = w := by
  have hb : (s[i]'hi).toNat = byteAt s i := by unfold byteAt; rw [dif_pos hi]
  have hi2 : (i : Int) < (s.size : Int) := by omega
  have cF := fun (j lo hi : Nat) (W : World) => follows_any s j lo hi W (by omega)
  unfold letterN
  generalize hc : byteAt s i = c at *
  by_cases h1 : c < 128
  · rw [if_pos h1]
    have b1 : (c : Int) < 128 := by omega
    go_enter Tryz.func70, Tryz.ntmps70
    go_wp2_with fail
    go_ret
    exact ⟨rfl, rfl⟩
  rw [if_neg h1]
  have b1 : ¬ (c : Int) < 128 := by omega
  by_cases h2 : c < 194 ∨ 244 < c
  · rw [if_pos h2]
    have b2 : (c : Int) < 194 ∨ (¬ (c : Int) < 194 ∧ (244 : Int) < (c : Int)) := by omega
    rcases b2 with b2 | ⟨b2, b3⟩
    all_goals go_enter Tryz.func70, Tryz.ntmps70
    all_goals go_wp2_with fail
    all_goals go_ret
    all_goals exact ⟨rfl, rfl⟩
  rw [if_neg h2]
  have b2 : ¬ (c : Int) < 194 := by omega
  have b3 : ¬ (244 : Int) < (c : Int) := by omega
  have c2 := cF (i + 1) (letLo c) (letHi c)
  have c3 := cF (i + 2) 128 191
  have c4 := cF (i + 3) 128 191
  rw [show (((i + 1 : Nat) : Int)) = (i : Int) + 1 by omega] at c2
  rw [show (((i + 2 : Nat) : Int)) = (i : Int) + 2 by omega] at c3
  rw [show (((i + 3 : Nat) : Int)) = (i : Int) + 3 by omega] at c4
  have hcase : (c < 224) ∨ (c = 224) ∨ ((225 ≤ c ∧ c < 237) ∨ (238 ≤ c ∧ c < 240)) ∨ (c = 237) ∨ (c = 240) ∨ (241 ≤ c ∧ c < 244) ∨ (c = 244) := by omega
  generalize foll s (i + 1) (letLo c) (letHi c) = f2 at *
  generalize foll s (i + 2) 128 191 = f3 at *
  generalize foll s (i + 3) 128 191 = f4 at *
  rcases hcase with h | h | h | h | h | h | h
  · have l1 : letLo c = 128 := by unfold letLo; rw [if_neg (by omega), if_neg (by omega)]
    have l2 : letHi c = 191 := by unfold letHi; rw [if_neg (by omega), if_neg (by omega)]
    rw [l1, l2] at c2
    have e224 : ((c : Int) == 224) = false := by simp; omega
    have e237 : ((c : Int) == 237) = false := by simp; omega
    have e240 : ((c : Int) == 240) = false := by simp; omega
    have e244 : ((c : Int) == 244) = false := by simp; omega
    have g1 : (c : Int) < 224 := by omega
    have g2 : ¬ (224 : Int) ≤ (c : Int) := by omega
    have g3 : ¬ (240 : Int) ≤ (c : Int) := by omega
    cases f2 <;> cases f3 <;> cases f4
    all_goals go_enter Tryz.func70, Tryz.ntmps70
    all_goals go_wp2_with (first | (go_at_call 96; have k4 := k3; refine (c4 _).mono ?_; rintro e w' ⟨rfl, rfl⟩) | (go_at_call 96; have k3 := k2; refine (c3 _).mono ?_; rintro e w' ⟨rfl, rfl⟩) | (go_at_call 96; have k2 := trivial; refine (c2 _).mono ?_; rintro e w' ⟨rfl, rfl⟩))
    all_goals go_ret
    all_goals (refine ⟨?_, rfl⟩; congr 2 <;> (try simp) <;> (try omega))
  · have l1 : letLo c = 160 := by unfold letLo; rw [if_pos h]
    have l2 : letHi c = 191 := by unfold letHi; rw [if_neg (by omega), if_neg (by omega)]
    rw [l1, l2] at c2
    subst h
    cases f2 <;> cases f3 <;> cases f4
    all_goals go_enter Tryz.func70, Tryz.ntmps70
    all_goals go_wp2_with (first | (go_at_call 96; have k4 := k3; refine (c4 _).mono ?_; rintro e w' ⟨rfl, rfl⟩) | (go_at_call 96; have k3 := k2; refine (c3 _).mono ?_; rintro e w' ⟨rfl, rfl⟩) | (go_at_call 96; have k2 := trivial; refine (c2 _).mono ?_; rintro e w' ⟨rfl, rfl⟩))
    all_goals go_ret
    all_goals (refine ⟨?_, rfl⟩; congr 2 <;> (try simp) <;> (try omega))
  · have l1 : letLo c = 128 := by unfold letLo; rw [if_neg (by omega), if_neg (by omega)]
    have l2 : letHi c = 191 := by unfold letHi; rw [if_neg (by omega), if_neg (by omega)]
    rw [l1, l2] at c2
    have e224 : ((c : Int) == 224) = false := by simp; omega
    have e237 : ((c : Int) == 237) = false := by simp; omega
    have e240 : ((c : Int) == 240) = false := by simp; omega
    have e244 : ((c : Int) == 244) = false := by simp; omega
    have g1 : ¬ (c : Int) < 224 := by omega
    have g2 : (224 : Int) ≤ (c : Int) := by omega
    have g3 : (c : Int) < 240 := by omega
    have g4 : ¬ (240 : Int) ≤ (c : Int) := by omega
    cases f2 <;> cases f3 <;> cases f4
    all_goals go_enter Tryz.func70, Tryz.ntmps70
    all_goals go_wp2_with (first | (go_at_call 96; have k4 := k3; refine (c4 _).mono ?_; rintro e w' ⟨rfl, rfl⟩) | (go_at_call 96; have k3 := k2; refine (c3 _).mono ?_; rintro e w' ⟨rfl, rfl⟩) | (go_at_call 96; have k2 := trivial; refine (c2 _).mono ?_; rintro e w' ⟨rfl, rfl⟩))
    all_goals go_ret
    all_goals (refine ⟨?_, rfl⟩; congr 2 <;> (try simp) <;> (try omega))
  · have l1 : letLo c = 128 := by unfold letLo; rw [if_neg (by omega), if_neg (by omega)]
    have l2 : letHi c = 159 := by unfold letHi; rw [if_pos h]
    rw [l1, l2] at c2
    subst h
    cases f2 <;> cases f3 <;> cases f4
    all_goals go_enter Tryz.func70, Tryz.ntmps70
    all_goals go_wp2_with (first | (go_at_call 96; have k4 := k3; refine (c4 _).mono ?_; rintro e w' ⟨rfl, rfl⟩) | (go_at_call 96; have k3 := k2; refine (c3 _).mono ?_; rintro e w' ⟨rfl, rfl⟩) | (go_at_call 96; have k2 := trivial; refine (c2 _).mono ?_; rintro e w' ⟨rfl, rfl⟩))
    all_goals go_ret
    all_goals (refine ⟨?_, rfl⟩; congr 2 <;> (try simp) <;> (try omega))
  · have l1 : letLo c = 144 := by unfold letLo; rw [if_neg (by omega), if_pos h]
    have l2 : letHi c = 191 := by unfold letHi; rw [if_neg (by omega), if_neg (by omega)]
    rw [l1, l2] at c2
    subst h
    cases f2 <;> cases f3 <;> cases f4
    all_goals go_enter Tryz.func70, Tryz.ntmps70
    all_goals go_wp2_with (first | (go_at_call 96; have k4 := k3; refine (c4 _).mono ?_; rintro e w' ⟨rfl, rfl⟩) | (go_at_call 96; have k3 := k2; refine (c3 _).mono ?_; rintro e w' ⟨rfl, rfl⟩) | (go_at_call 96; have k2 := trivial; refine (c2 _).mono ?_; rintro e w' ⟨rfl, rfl⟩))
    all_goals go_ret
    all_goals (refine ⟨?_, rfl⟩; congr 2 <;> (try simp) <;> (try omega))
  · have l1 : letLo c = 128 := by unfold letLo; rw [if_neg (by omega), if_neg (by omega)]
    have l2 : letHi c = 191 := by unfold letHi; rw [if_neg (by omega), if_neg (by omega)]
    rw [l1, l2] at c2
    have e224 : ((c : Int) == 224) = false := by simp; omega
    have e237 : ((c : Int) == 237) = false := by simp; omega
    have e240 : ((c : Int) == 240) = false := by simp; omega
    have e244 : ((c : Int) == 244) = false := by simp; omega
    have g1 : ¬ (c : Int) < 224 := by omega
    have g2 : (224 : Int) ≤ (c : Int) := by omega
    have g3 : ¬ (c : Int) < 240 := by omega
    have g4 : (240 : Int) ≤ (c : Int) := by omega
    cases f2 <;> cases f3 <;> cases f4
    all_goals go_enter Tryz.func70, Tryz.ntmps70
    all_goals go_wp2_with (first | (go_at_call 96; have k4 := k3; refine (c4 _).mono ?_; rintro e w' ⟨rfl, rfl⟩) | (go_at_call 96; have k3 := k2; refine (c3 _).mono ?_; rintro e w' ⟨rfl, rfl⟩) | (go_at_call 96; have k2 := trivial; refine (c2 _).mono ?_; rintro e w' ⟨rfl, rfl⟩))
    all_goals go_ret
    all_goals (refine ⟨?_, rfl⟩; congr 2 <;> (try simp) <;> (try omega))
  · have l1 : letLo c = 128 := by unfold letLo; rw [if_neg (by omega), if_neg (by omega)]
    have l2 : letHi c = 143 := by unfold letHi; rw [if_neg (by omega), if_pos h]
    rw [l1, l2] at c2
    subst h
    cases f2 <;> cases f3 <;> cases f4
    all_goals go_enter Tryz.func70, Tryz.ntmps70
    all_goals go_wp2_with (first | (go_at_call 96; have k4 := k3; refine (c4 _).mono ?_; rintro e w' ⟨rfl, rfl⟩) | (go_at_call 96; have k3 := k2; refine (c3 _).mono ?_; rintro e w' ⟨rfl, rfl⟩) | (go_at_call 96; have k2 := trivial; refine (c2 _).mono ?_; rintro e w' ⟨rfl, rfl⟩))
    all_goals go_ret
    all_goals (refine ⟨?_, rfl⟩; congr 2 <;> (try simp) <;> (try omega))
end Go.Proofs.YtmfijfcikecglaaGreatDoor
end
section
set_option linter.unusedVariables false
set_option linter.unusedSimpArgs false
namespace Go.Proofs.YtmfijfcikecglaaGreatDoor
open Go Go.RowKit

/-! ### the one form of numbers -/
/-- A number in its one form. -/
def NumN (neg : Bool) (ds : ByteArray) (ex : Int) : Prop :=
  (neg = false ∧ ds = ⟨#[]⟩ ∧ ex = 0) ∨
  ((∀ c ∈ ds.data.toList, 48 ≤ c.toNat ∧ c.toNat ≤ 57) ∧ (∃ c q, ds.data.toList = c :: q ∧ c ≠ 48) ∧ (∃ c q, ds.data.toList.reverse = c :: q ∧ c ≠ 48) ∧ -9999 ≤ ex ∧ ex ≤ 9999)
theorem dropWhile_head {α : Type} (p : α → Bool) : ∀ (l : List α), l.dropWhile p = [] ∨ ∃ c q, l.dropWhile p = c :: q ∧ p c = false
  | [] => .inl rfl
  | a :: l => by
    rw [List.dropWhile_cons]
    cases h : p a with
    | true => exact dropWhile_head p l
    | false => exact .inr ⟨a, l, rfl, h⟩
theorem dropWhile_nil {α : Type} (p : α → Bool) : ∀ (l : List α), l.dropWhile p = [] → ∀ x ∈ l, p x = true
  | [], _, x, hx => by cases hx
  | a :: l, h, x, hx => by
    rw [List.dropWhile_cons] at h
    cases ha : p a with
    | true =>
      rw [ha] at h
      rcases List.mem_cons.1 hx with rfl | hx
      · exact ha
      · exact dropWhile_nil p l h x hx
    | false => rw [ha] at h; cases h
theorem beq48 (c : UInt8) : (c == 48) = false ↔ c ≠ 48 := by simp
theorem numN_form (neg : Bool) (ds : ByteArray) (ex : Int) : NumN (decForm neg ds ex).1.neg (decForm neg ds ex).1.digits (decForm neg ds ex).1.exp := by
  have hb := (decForm_bounds neg ds ex).2
  unfold decForm at hb ⊢
  split
  · exact .inl ⟨rfl, rfl, rfl⟩
  · rename_i h0
    split
    · exact .inl ⟨rfl, rfl, rfl⟩
    · split
      · exact .inl ⟨rfl, rfl, rfl⟩
      · rename_i h1 h2
        rw [if_neg h0, if_neg h1, if_neg h2] at hb
        refine .inr ?_
        show (∀ c ∈ (decShort (decBare ds)).data.toList, 48 ≤ c.toNat ∧ c.toNat ≤ 57) ∧ (∃ c q, (decShort (decBare ds)).data.toList = c :: q ∧ c ≠ 48) ∧ (∃ c q, (decShort (decBare ds)).data.toList.reverse = c :: q ∧ c ≠ 48) ∧ _
        have hB : (decBare ds).data.toList = (ds.data.toList.filter isDigitB).dropWhile (· == 48) := by rw [decBare_eq]
        have hS : (decShort (decBare ds)).data.toList = ((decBare ds).data.toList.reverse.dropWhile (· == 48)).reverse := by unfold decShort Lib.trimRightB; rfl
        have hdig : ∀ c ∈ (decBare ds).data.toList, 48 ≤ c.toNat ∧ c.toNat ≤ 57 := by
          intro c hc
          rw [hB] at hc
          have := (List.mem_filter.1 ((List.dropWhile_sublist _).subset hc)).2
          unfold isDigitB at this
          simp only [Bool.and_eq_true, decide_eq_true_eq] at this
          exact this
        have hne : (decBare ds).data.toList ≠ [] := by
          intro e
          apply h0
          have : (decBare ds).data.toList.length = (decBare ds).size := Array.length_toList
          rw [e] at this
          exact this.symm
        obtain ⟨c0, q0, e0, hc0⟩ : ∃ c q, (decBare ds).data.toList = c :: q ∧ c ≠ 48 := by
          rcases dropWhile_head (fun b : UInt8 => b == 48) (ds.data.toList.filter isDigitB) with h | ⟨c, q, h, hc⟩
          · rw [hB] at hne; exact absurd h hne
          · exact ⟨c, q, by rw [hB]; exact h, (beq48 c).1 hc⟩
        have hlast : ∃ c q, (decBare ds).data.toList.reverse.dropWhile (· == 48) = c :: q ∧ c ≠ 48 := by
          rcases dropWhile_head (fun b : UInt8 => b == 48) (decBare ds).data.toList.reverse with h | ⟨c, q, h, hc⟩
          · exfalso
            have : ∀ x ∈ (decBare ds).data.toList.reverse, (x == 48) = true := by
              intro x hx
              exact dropWhile_nil _ _ h x hx
            have h2 := this c0 (by rw [List.mem_reverse, e0]; exact .head _)
            exact hc0 (by simpa using h2)
          · exact ⟨c, q, h, (beq48 c).1 hc⟩
        refine ⟨?_, ?_, ?_, hb⟩
        · intro c hc
          rw [hS, List.mem_reverse] at hc
          exact hdig c (List.mem_reverse.1 ((List.dropWhile_sublist _).subset hc))
        · obtain ⟨c, q, e, hc⟩ := hlast
          obtain ⟨r, hr⟩ : ∃ r, r ++ (decBare ds).data.toList.reverse.dropWhile (· == 48) = (decBare ds).data.toList.reverse := (List.dropWhile_suffix _)
          have h3 : (decShort (decBare ds)).data.toList ++ r.reverse = c0 :: q0 := by
            rw [hS, ← e0, ← List.reverse_append, hr, List.reverse_reverse]
          cases hd : (decShort (decBare ds)).data.toList with
          | nil => rw [hS, e] at hd; simp at hd
          | cons a b =>
            rw [hd] at h3
            injection h3 with h4 h5
            subst h4
            exact ⟨a, b, rfl, hc0⟩
        · obtain ⟨c, q, e, hc⟩ := hlast
          exact ⟨c, q, by rw [hS, List.reverse_reverse]; exact e, hc⟩
theorem numN_bare {ds : ByteArray} (hd : ∀ c ∈ ds.data.toList, 48 ≤ c.toNat ∧ c.toNat ≤ 57) (h : ∃ c q, ds.data.toList = c :: q ∧ c ≠ 48) : decBare ds = ds := by
  rw [decBare_eq]
  have e1 : ds.data.toList.filter isDigitB = ds.data.toList := List.filter_eq_self.2 (fun c hc => by unfold isDigitB; simp [hd c hc])
  rw [e1]
  obtain ⟨c, q, e, hc⟩ := h
  have e2 : ds.data.toList.dropWhile (· == 48) = ds.data.toList := by rw [e, List.dropWhile_cons, (beq48 c).2 hc]; rfl
  rw [e2]
theorem numN_short {ds : ByteArray} (h : ∃ c q, ds.data.toList.reverse = c :: q ∧ c ≠ 48) : decShort ds = ds := by
  unfold decShort Lib.trimRightB
  obtain ⟨c, q, e, hc⟩ := h
  have e2 : ds.data.toList.reverse.dropWhile (· == 48) = ds.data.toList.reverse := by rw [e, List.dropWhile_cons, (beq48 c).2 hc]; rfl
  rw [e2, List.reverse_reverse]
theorem form_numN {neg : Bool} {ds : ByteArray} {ex : Int} (h : NumN neg ds ex) : decForm neg ds ex = (⟨neg, ds, ex⟩, true) := by
  rcases h with ⟨rfl, rfl, rfl⟩ | ⟨h1, h2, h3, h4, h5⟩
  · rfl
  · unfold decForm
    rw [numN_bare h1 h2]
    have hz : decDrop ds = 0 := by unfold decDrop; rw [numN_short h3]; omega
    have hne : ds.size ≠ 0 := by
      obtain ⟨c, q, e, _⟩ := h2
      have : ds.data.toList.length = ds.size := Array.length_toList
      rw [e] at this
      simp at this
      omega
    rw [if_neg hne, hz, if_neg (by omega), if_neg (by omega), numN_short h3]
    simp
/-- What a number in its one form is told as. -/
theorem text_numN {neg : Bool} {ds : ByteArray} {ex : Int} (h : NumN neg ds ex) : decText neg ds ex = if ds.size = 0 then [48] else (if neg = true then [45] else []) ++ ds.data.toList ++ (if ex = 0 then [] else 101 :: Lib.itoa ex) := by
  unfold decText decNorm
  rw [form_numN h]

/-! ### digits are read -/
theorem nFst_run (s : ByteArray) (neg : Bool) : ∀ (q : List UInt8) (c : UInt8) (n i : Nat) (bs : List Int), Has s i (c :: q) → (∀ x ∈ q, 48 ≤ x.toNat ∧ x.toNat ≤ 57) → isDg (byteAt s (i + 1 + q.length)) = false → q.length < n →
    nFst s n i neg bs = nBeh s (i + 1 + q.length) neg (bs ++ (c :: q).map (fun x => (x.toNat : Int)))
  | [], c, n + 1, i, bs, h, hd, he, hn => by
    rw [nFst]
    simp only [List.length_nil, Nat.add_zero] at he ⊢
    rw [if_neg (by rw [he]; simp), h.head.1]
    rfl
  | c2 :: q, c, n + 1, i, bs, h, hd, he, hn => by
    rw [nFst]
    have h2 := h.tail.head.1
    have hd2 := hd c2 (.head _)
    rw [if_pos (by rw [h2]; unfold isDg; simp [hd2]), h.head.1]
    simp only [List.length_cons] at he hn ⊢
    rw [nFst_run s neg q c2 n (i + 1) _ h.tail (fun x hx => hd x (.tail _ hx)) (by rw [show i + 1 + 1 + q.length = i + 1 + (q.length + 1) by omega]; exact he) (by omega)]
    rw [show i + 1 + 1 + q.length = i + 1 + (q.length + 1) by omega]
    congr 1
    simp
def foldD (tens : Int) (q : List UInt8) : Int := q.foldl (fun a c => nFar (10 * a + ((c.toNat : Int) - 48))) tens
theorem nDig_run (s : ByteArray) (neg : Bool) (bs : List Int) (exp sign : Int) : ∀ (q : List UInt8) (c : UInt8) (n i : Nat) (tens : Int), Has s i (c :: q) → (∀ x ∈ q, 48 ≤ x.toNat ∧ x.toNat ≤ 57) → isDg (byteAt s (i + 1 + q.length)) = false → q.length < n →
    nDig s n i neg bs exp sign tens = nEnd s (i + 1 + q.length) neg bs exp sign (foldD tens (c :: q))
  | [], c, n + 1, i, tens, h, hd, he, hn => by
    rw [nDig]
    simp only [List.length_nil, Nat.add_zero] at he ⊢
    rw [if_neg (by rw [he]; simp), h.head.1]
    rfl
  | c2 :: q, c, n + 1, i, tens, h, hd, he, hn => by
    rw [nDig]
    have h2 := h.tail.head.1
    have hd2 := hd c2 (.head _)
    rw [if_pos (by rw [h2]; unfold isDg; simp [hd2]), h.head.1]
    simp only [List.length_cons] at he hn ⊢
    rw [nDig_run s neg bs exp sign q c2 n (i + 1) _ h.tail (fun x hx => hd x (.tail _ hx)) (by rw [show i + 1 + 1 + q.length = i + 1 + (q.length + 1) by omega]; exact he) (by omega)]
    rw [show i + 1 + 1 + q.length = i + 1 + (q.length + 1) by omega]
    rfl
theorem digits_ok2 : ∀ a b : Fin 100, foldD 0 (Lib.decDigits (a.val * 100 + b.val)) = ((a.val * 100 + b.val : Nat) : Int) ∧ (Lib.decDigits (a.val * 100 + b.val)).all isDigitB = true ∧ (Lib.decDigits (a.val * 100 + b.val)).isEmpty = false := by decide +kernel
theorem digits_ok {u : Nat} (hu : u < 10000) : foldD 0 (Lib.decDigits u) = (u : Int) ∧ (∀ c ∈ Lib.decDigits u, 48 ≤ c.toNat ∧ c.toNat ≤ 57) ∧ ∃ c q, Lib.decDigits u = c :: q := by
  have h := digits_ok2 ⟨u / 100, by omega⟩ ⟨u % 100, by omega⟩
  have e : u / 100 * 100 + u % 100 = u := by omega
  simp only [e] at h
  obtain ⟨h1, h2, h3⟩ := h
  refine ⟨h1, fun c hc => ?_, ?_⟩
  · have := List.all_eq_true.1 h2 c hc
    unfold isDigitB at this
    simpa using this
  · cases hd : Lib.decDigits u with
    | nil => rw [hd] at h3; cases h3
    | cons c q => exact ⟨c, q, rfl⟩

/-! ### a numeral is read -/
theorem byteAt_end {s : ByteArray} {i : Nat} (h : s.size ≤ i) : byteAt s i = 0 := by
  unfold byteAt
  rw [dif_neg (by omega)]
/-- What stands behind the digits: the power. -/
theorem nPow_back {s : ByteArray} {i : Nat} {ex : Int} (h0 : -9999 ≤ ex) (h1 : ex ≤ 9999) (h : Has s i (if ex = 0 then [] else 101 :: Lib.itoa ex)) (hend : i + (if ex = 0 then [] else 101 :: Lib.itoa ex : List UInt8).length = s.size) (neg : Bool) (bs : List Int) :
    nPow s i neg bs 0 = some (neg, bs, ex) := by
  by_cases hz : ex = 0
  · rw [if_pos hz] at hend
    simp only [List.length_nil, Nat.add_zero] at hend
    unfold nPow nEnd
    rw [byteAt_end (by omega), if_neg (by omega), if_pos hend, hz]
    rfl
  · rw [if_neg hz] at h hend
    have e0 : byteAt s i = 101 := h.head.1
    unfold nPow
    rw [if_pos (.inl e0)]
    obtain ⟨hf, hd, c, q, hcq⟩ := digits_ok (u := ex.natAbs) (by omega)
    have hc := hd c (by rw [hcq]; exact .head _)
    have key : ∀ (p : Nat) (sign : Int), Has s p (c :: q) → p + (c :: q).length = s.size → nExp s p neg bs 0 sign = some (neg, bs, 0 + sign * ex.natAbs) := by
      intro p sign hp hpe
      simp only [List.length_cons] at hpe
      unfold nExp
      rw [if_pos (by rw [hp.head.1]; unfold isDg; simp [hc])]
      rw [nDig_run s neg bs 0 sign q c (s.size + 1) p 0 hp (fun x hx => hd x (by rw [hcq]; exact .tail _ hx)) (by rw [byteAt_end (by omega)]; rfl) (by omega)]
      unfold nEnd
      rw [if_pos (by omega), ← hcq, hf]
    by_cases hneg : ex < 0
    · have hi : Lib.itoa ex = 45 :: c :: q := by unfold Lib.itoa; rw [if_pos hneg, hcq]
      rw [hi] at h hend
      have e1 : byteAt s (i + 1) = 45 := h.tail.head.1
      rw [if_pos e1, key (i + 2) (-1) h.tail.tail (by simp only [List.length_cons] at hend ⊢; omega)]
      congr 3
      omega
    · have hi : Lib.itoa ex = c :: q := by unfold Lib.itoa; rw [if_neg hneg, ← hcq]; congr 1; omega
      rw [hi] at h hend
      have e1 : byteAt s (i + 1) = c.toNat := h.tail.head.1
      rw [if_neg (by omega), if_neg (by omega), key (i + 1) 1 h.tail (by simp only [List.length_cons] at hend ⊢; omega)]
      congr 3
      omega
theorem strOf_back (l : List UInt8) : strOfNums (l.map fun x => (x.toNat : Int)) = ⟨l.toArray⟩ := by
  unfold strOfNums
  congr 2
  rw [List.map_map]
  conv => rhs; rw [← List.map_id l]
  apply List.map_congr_left
  intro x _
  simp
theorem numeral_back {neg : Bool} {ds : ByteArray} {ex : Int} (h : NumN neg ds ex) : decParse ⟨(decText neg ds ex).toArray⟩ = .ok ⟨neg, ds, ex⟩ := by
  rw [text_numN h]
  rcases h with ⟨rfl, rfl, rfl⟩ | ⟨h1, h2, h3, h4, h5⟩
  · rfl
  · obtain ⟨c, q, e, hc⟩ := h2
    have hne : ds.size ≠ 0 := by
      have : ds.data.toList.length = ds.size := Array.length_toList
      rw [e] at this
      simp at this
      omega
    rw [if_neg hne]
    generalize hT : (if neg = true then [45] else []) ++ ds.data.toList ++ (if ex = 0 then [] else 101 :: Lib.itoa ex) = T
    generalize hs : (⟨T.toArray⟩ : ByteArray) = s
    have hall : Has s 0 T := by
      have := Has.all s
      have e2 : s.data.toList = T := by rw [← hs]
      rw [e2] at this
      exact this
    have hsz : s.size = T.length := by rw [← hs]; exact size_mk T
    have hc1 := h1 c (by rw [e]; exact .head _)
    have hc48 : c.toNat ≠ 48 := fun h => hc (UInt8.toNat_inj.1 h)
    have key : ∀ i, Has s i (ds.data.toList ++ (if ex = 0 then [] else 101 :: Lib.itoa ex)) → i + (ds.data.toList ++ (if ex = 0 then [] else 101 :: Lib.itoa ex : List UInt8)).length = s.size → nNum s i neg = some (neg, ds.data.toList.map (fun x => (x.toNat : Int)), ex) := by
      intro i hi hl
      rw [List.length_append] at hl
      have hL := hi.left
      have hR := hi.right
      rw [e] at hL
      have b0 : byteAt s i = c.toNat := hL.head.1
      have hlen : ds.data.toList.length = q.length + 1 := by rw [e]; rfl
      have hnd : byteAt s (i + ds.data.toList.length) = 0 ∨ byteAt s (i + ds.data.toList.length) = 101 := by
        by_cases hz : ex = 0
        · rw [if_pos hz] at hl
          exact .inl (byteAt_end (by simp only [List.length_nil] at hl; omega))
        · rw [if_neg hz] at hR
          exact .inr hR.head.1
      unfold nNum
      rw [if_neg (by omega), if_neg (by omega)]
      rw [nFst_run s neg q c (s.size + 1) i [] hL (fun x hx => h1 x (by rw [e]; exact .tail _ hx)) (by rw [show i + 1 + q.length = i + ds.data.toList.length by omega]; rcases hnd with hx | hx <;> rw [hx] <;> rfl) (by omega)]
      rw [show i + 1 + q.length = i + ds.data.toList.length by omega, List.nil_append, ← e]
      unfold nBeh
      rw [if_neg (by omega), nPow_back h4 h5 hR (by omega)]
    have hnum : numeral s = some (neg, ds.data.toList.map (fun x => (x.toNat : Int)), ex) := by
      unfold numeral
      rw [← hT] at hall hsz
      cases neg with
      | true =>
        simp only [if_true] at hall hsz key
        rw [List.append_assoc] at hall hsz
        rw [if_pos (show byteAt s 0 = 45 from hall.head.1)]
        exact key 1 hall.tail (by rw [hsz]; simp only [List.length_append, List.length_cons, List.length_nil]; try omega)
      | false =>
        simp only [Bool.false_eq_true, if_false, List.nil_append] at hall hsz
        have hL := hall.left
        rw [e] at hL
        have b0 : byteAt s 0 = c.toNat := hL.head.1
        rw [if_neg (by omega)]
        exact key 0 hall (by rw [hsz]; try omega)
    unfold decParse
    rw [hnum]
    simp only
    rw [strOf_back, show (⟨ds.data.toList.toArray⟩ : ByteArray) = ds by simp, form_numN (.inr ⟨h1, ⟨c, q, e, hc⟩, h3, h4, h5⟩)]
    rfl

/-! ### a number within a text -/
theorem numTo_run (s : ByteArray) : ∀ (q : List UInt8) (n i : Nat), Has s i q → (∀ c ∈ q, isNum c.toNat = true) → isNum (byteAt s (i + q.length)) = false → q.length < n → numTo s n i = i + q.length
  | [], n + 1, i, h, hq, he, hn => by
    rw [numTo]
    simp only [List.length_nil, Nat.add_zero] at he ⊢
    rw [if_neg (by rw [he]; simp)]
  | c :: q, n + 1, i, h, hq, he, hn => by
    rw [numTo]
    have h0 := h.head
    rw [if_pos ⟨h0.2, by rw [h0.1]; exact hq c (.head _)⟩]
    simp only [List.length_cons] at he hn ⊢
    rw [numTo_run s q n (i + 1) h.tail (fun x hx => hq x (.tail _ hx)) (by rw [show i + 1 + q.length = i + (q.length + 1) by omega]; exact he) (by omega)]
    omega
theorem isNum_digit {n : Nat} (h : 48 ≤ n ∧ n ≤ 57) : isNum n = true := by
  unfold isNum isDg
  simp [h]
theorem text_isNum {neg : Bool} {ds : ByteArray} {ex : Int} (h : NumN neg ds ex) : ∀ c ∈ decText neg ds ex, isNum c.toNat = true := by
  rw [text_numN h]
  rcases h with ⟨rfl, rfl, rfl⟩ | ⟨h1, h2, h3, h4, h5⟩
  · intro c hc
    have : c = 48 := by simpa [ByteArray.size] using hc
    subst this; rfl
  · have hne : ds.size ≠ 0 := by
      obtain ⟨c, q, e, hc⟩ := h2
      have : ds.data.toList.length = ds.size := Array.length_toList
      rw [e] at this
      simp at this
      omega
    rw [if_neg hne]
    intro c hc
    rcases List.mem_append.1 hc with hc | hc
    · rcases List.mem_append.1 hc with hc | hc
      · split at hc
        · have : c = 45 := by simpa using hc
          subst this; rfl
        · cases hc
      · exact isNum_digit (h1 c hc)
    · split at hc
      · cases hc
      · obtain ⟨_, hd, _⟩ := digits_ok (u := ex.natAbs) (by omega)
        rcases List.mem_cons.1 hc with rfl | hc
        · rfl
        · unfold Lib.itoa at hc
          split at hc
          · rcases List.mem_cons.1 hc with rfl | hc
            · rfl
            · exact isNum_digit (hd c hc)
          · rw [show ex.toNat = ex.natAbs by omega] at hc
            exact isNum_digit (hd c hc)
theorem text_first {neg : Bool} {ds : ByteArray} {ex : Int} (h : NumN neg ds ex) : ∃ c q, decText neg ds ex = c :: q ∧ (c.toNat = 45 ∨ (48 ≤ c.toNat ∧ c.toNat ≤ 57)) := by
  rw [text_numN h]
  rcases h with ⟨rfl, rfl, rfl⟩ | ⟨h1, ⟨c, q, e, hc⟩, h3, h4, h5⟩
  · exact ⟨48, [], rfl, by decide⟩
  · have hne : ds.size ≠ 0 := by
      have : ds.data.toList.length = ds.size := Array.length_toList
      rw [e] at this
      simp at this
      omega
    rw [if_neg hne, e]
    cases neg with
    | true => exact ⟨45, _, rfl, .inl rfl⟩
    | false => exact ⟨c, _, rfl, .inr (h1 c (by rw [e]; exact .head _))⟩
/-- **A number in its one form, told, is read as it.** -/
theorem number_back {neg : Bool} {ds : ByteArray} {ex : Int} (h : NumN neg ds ex) {s : ByteArray} {i : Nat} (hs : Has s i (decText neg ds ex)) (he : isNum (byteAt s (i + (decText neg ds ex).length)) = false) :
    numberAt s i = .ok (.mk 2 false neg ds ex ⟨#[]⟩ [] []) (i + (decText neg ds ex).length) := by
  unfold numberAt
  have hle := hs.1
  rw [numTo_run s _ (s.size + 1) i hs (text_isNum h) he (by omega), hs.extract, numeral_back h]
end Go.Proofs.YtmfijfcikecglaaGreatDoor
end
section
set_option linter.unusedVariables false
set_option linter.unusedSimpArgs false
namespace Go.Proofs.YtmfijfcikecglaaGreatDoor
open Go Go.RowKit

theorem byteAt_bang (s : ByteArray) (j : Nat) : byteAt s j = (s.get! j).toNat := by
  by_cases h : j < s.size
  · exact byteAt_get h
  · rw [byteAt_end (by omega)]
    show 0 = (s.data[j]!).toNat
    rw [getElem!_neg s.data j (by show ¬ j < s.size; exact h)]
    rfl
/-- letter, by the bytes. -/
def letterB (n b0 b1 b2 b3 : Nat) : Nat :=
  if b0 < 128 then 1
  else if b0 < 194 ∨ 244 < b0 then 0
  else if b0 < 224 ∧ (1 < n ∧ letLo b0 ≤ b1 ∧ b1 ≤ letHi b0) then 2
  else if 224 ≤ b0 ∧ b0 < 240 ∧ (1 < n ∧ letLo b0 ≤ b1 ∧ b1 ≤ letHi b0) ∧ (2 < n ∧ 128 ≤ b2 ∧ b2 ≤ 191) then 3
  else if 240 ≤ b0 ∧ (1 < n ∧ letLo b0 ≤ b1 ∧ b1 ≤ letHi b0) ∧ (2 < n ∧ 128 ≤ b2 ∧ b2 ≤ 191) ∧ (3 < n ∧ 128 ≤ b3 ∧ b3 ≤ 191) then 4
  else 0
theorem letterN_B (s : ByteArray) (i : Nat) : letterN s i = letterB (s.size - i) (byteAt s i) (byteAt s (i + 1)) (byteAt s (i + 2)) (byteAt s (i + 3)) := by
  have e : ∀ k lo hi, foll s (i + k) lo hi = true ↔ (k < s.size - i ∧ lo ≤ byteAt s (i + k) ∧ byteAt s (i + k) ≤ hi) := by
    intro k lo hi
    unfold foll
    simp only [Bool.and_eq_true, decide_eq_true_eq]
    constructor
    · rintro ⟨a, b, c⟩; exact ⟨by omega, b, c⟩
    · rintro ⟨a, b, c⟩; exact ⟨by omega, b, c⟩
  unfold letterN letterB
  simp only [e]
set_option maxRecDepth 100000 in
set_option maxHeartbeats 4000000 in
theorem letterB_dec (n b0 b1 b2 b3 : Nat) (h0 : b0 < 256) (h1 : b1 < 256) (h2 : b2 < 256) (h3 : b3 < 256) (hn : 0 < n) :
    letterB n b0 b1 b2 b3 = if (Lib.decodeN n b0 b1 b2 b3).1 = 65533 ∧ (Lib.decodeN n b0 b1 b2 b3).2 = 1 then 0 else (Lib.decodeN n b0 b1 b2 b3).2 := by
  have hlo : letLo b0 = 160 ∧ b0 = 224 ∨ letLo b0 = 144 ∧ b0 = 240 ∨ letLo b0 = 128 ∧ b0 ≠ 224 ∧ b0 ≠ 240 := by
    unfold letLo
    split
    · exact .inl ⟨rfl, by assumption⟩
    · split
      · exact .inr (.inl ⟨rfl, by assumption⟩)
      · exact .inr (.inr ⟨rfl, by assumption, by assumption⟩)
  have hhi : letHi b0 = 159 ∧ b0 = 237 ∨ letHi b0 = 143 ∧ b0 = 244 ∨ letHi b0 = 191 ∧ b0 ≠ 237 ∧ b0 ≠ 244 := by
    unfold letHi
    split
    · exact .inl ⟨rfl, by assumption⟩
    · split
      · exact .inr (.inl ⟨rfl, by assumption⟩)
      · exact .inr (.inr ⟨rfl, by assumption, by assumption⟩)
  unfold letterB
  generalize letLo b0 = lo at *
  generalize letHi b0 = hi at *
  rcases Lib.decodeN_shape n b0 b1 b2 b3 with ⟨c, e⟩ | ⟨a1, a2, a3, av, e⟩ | ⟨a1, a2, a3, a4, av, ax, e⟩ | ⟨a1, a2, a3, a4, a5, av, aw, e⟩ | e
  · rw [e, if_pos c, if_neg (by simp only; omega)]
  · rw [e, if_neg (by omega), if_neg (by omega), if_pos (by omega), if_neg (by simp only; omega)]
  · rw [e, if_neg (by omega), if_neg (by omega), if_neg (by omega), if_pos (by omega), if_neg (by simp only; omega)]
  · rw [e, if_neg (by omega), if_neg (by omega), if_neg (by omega), if_neg (by omega), if_pos (by omega), if_neg (by simp only; omega)]
  · have hb := e
    unfold Lib.decodeN at hb
    rw [e]
    show _ = (0 : Nat)
    by_cases k1 : b0 < 128
    · rw [if_pos k1] at hb
      have := congrArg Prod.fst hb
      simp only at this
      omega
    rw [if_neg k1] at hb ⊢
    by_cases k2 : b0 < 194 ∨ 244 < b0
    · rw [if_pos k2]
    rw [if_neg k2]
    by_cases k3 : b0 < 224 ∧ 1 < n ∧ lo ≤ b1 ∧ b1 ≤ hi
    · exfalso
      rw [if_pos (by omega), if_pos (by omega)] at hb
      have := congrArg Prod.snd hb
      simp only at this
      omega
    rw [if_neg k3]
    by_cases k4 : 224 ≤ b0 ∧ b0 < 240 ∧ (1 < n ∧ lo ≤ b1 ∧ b1 ≤ hi) ∧ 2 < n ∧ 128 ≤ b2 ∧ b2 ≤ 191
    · exfalso
      rw [if_neg (by omega), if_pos (by omega), if_pos (by omega)] at hb
      have := congrArg Prod.snd hb
      simp only at this
      omega
    rw [if_neg k4]
    by_cases k5 : 240 ≤ b0 ∧ (1 < n ∧ lo ≤ b1 ∧ b1 ≤ hi) ∧ (2 < n ∧ 128 ≤ b2 ∧ b2 ≤ 191) ∧ 3 < n ∧ 128 ≤ b3 ∧ b3 ≤ 191
    · exfalso
      rw [if_neg (by omega), if_neg (by omega), if_pos (by omega), if_pos (by omega)] at hb
      have := congrArg Prod.snd hb
      simp only at this
      omega
    rw [if_neg k5]
/-- How many bytes a letter has, by the decoding. -/
theorem letterN_dec {s : ByteArray} {i : Nat} (hi : i < s.size) : letterN s i = if (Utf8.decode s i).1 = 65533 ∧ (Utf8.decode s i).2 = 1 then 0 else (Utf8.decode s i).2 := by
  rw [letterN_B, letterB_dec _ _ _ _ _ (byteAt_lt _ _) (byteAt_lt _ _) (byteAt_lt _ _) (byteAt_lt _ _) (by omega), Lib.decode_at, byteAt_bang, byteAt_bang, byteAt_bang, byteAt_bang]

/-! ### Clean -/
/-- What Clean gathers from a place on. -/
theorem cleanFrom_step {s : ByteArray} {pos fuel : Nat} (h : pos < s.size) : cleanFrom s (fuel + 1) pos = (if letterN s pos = 0 then [239, 191, 189] else (s.data.toList.drop pos).take (letterN s pos)) ++ cleanFrom s fuel (pos + (if letterN s pos = 0 then 1 else letterN s pos)) := by
  rw [cleanFrom, if_pos h, letterN_dec h, decode_drop]
  have hlen : (s.data.toList.drop pos).length = s.size - pos := by rw [List.length_drop, Array.length_toList]; rfl
  have hne : s.data.toList.drop pos ≠ [] := by intro e; rw [e] at hlen; simp at hlen; omega
  by_cases hb : (Lib.decodeL (s.data.toList.drop pos)).1 = 65533 ∧ (Lib.decodeL (s.data.toList.drop pos)).2 = 1
  · rw [if_pos hb, if_pos rfl, if_pos rfl, hb.1, hb.2]
    rfl
  · have hp : 1 ≤ (Lib.decodeL (s.data.toList.drop pos)).2 := by rw [Lib.decodeL_N]; exact decodeN_pos _ _ _ _ _
    rw [if_neg hb, if_neg (by omega), if_neg (by omega), Lib.encode_decode _ hne hb]
/-- A valid text is gathered as it is. -/
theorem cleanFrom_of_valid (s : ByteArray) : ∀ (fuel pos : Nat), s.size ≤ pos + fuel → pos ≤ s.size → Lib.validD (s.data.toList.drop pos) = true → cleanFrom s fuel pos = s.data.toList.drop pos
  | fuel, pos, hf, hp, hv => by
    have hlen : (s.data.toList.drop pos).length = s.size - pos := by rw [List.length_drop, Array.length_toList]; rfl
    by_cases h : pos < s.size
    · obtain ⟨fuel, rfl⟩ : ∃ m, fuel = m + 1 := ⟨fuel - 1, by omega⟩
      have hne : s.data.toList.drop pos ≠ [] := by intro e; rw [e] at hlen; simp at hlen; omega
      rw [Lib.validD_step _ hne] at hv
      have hgood : ¬ ((Lib.decodeL (s.data.toList.drop pos)).1 = 65533 ∧ (Lib.decodeL (s.data.toList.drop pos)).2 = 1) := by
        intro hb; rw [if_pos hb] at hv; cases hv
      rw [if_neg hgood] at hv
      have hw : (Lib.decodeL (s.data.toList.drop pos)).2 ≤ s.size - pos ∧ 1 ≤ (Lib.decodeL (s.data.toList.drop pos)).2 := by
        rw [Lib.decodeL_N, ← hlen]
        exact ⟨Lib.decodeN_width_le _ _ _ _ _ (by omega), decodeN_pos _ _ _ _ _⟩
      rw [cleanFrom, if_pos h, decode_drop, Lib.encode_decode _ hne hgood, cleanFrom_of_valid s fuel _ (by omega) (by omega) (by rw [← List.drop_drop]; exact hv), ← List.drop_drop, List.take_append_drop]
    · have e : s.data.toList.drop pos = [] := List.eq_nil_of_length_eq_zero (by omega)
      rw [e]
      cases fuel with
      | zero => rfl
      | succ m => rw [cleanFrom, if_neg h]
theorem clean_eq (s : ByteArray) : clean s = ⟨(cleanFrom s s.size 0).toArray⟩ := by
  unfold clean
  split
  · rename_i h
    rw [cleanFrom_of_valid s s.size 0 (by omega) (by omega) (by simpa using h)]
    simp
  · rfl
end Go.Proofs.YtmfijfcikecglaaGreatDoor
end
section
set_option linter.unusedVariables false
set_option linter.unusedSimpArgs false
namespace Go.Proofs.YtmfijfcikecglaaGreatDoor
open Go Go.RowKit Go.Proofs.YtmfijfcikecglaaGreatDoorW.PrintWords

def nat8 (l : List UInt8) : List Int := l.map fun x => (x.toNat : Int)
theorem nat8_len (l : List UInt8) : (nat8 l).length = l.length := by unfold nat8; rw [List.length_map]
theorem nat8_app (a b : List UInt8) : nat8 (a ++ b) = nat8 a ++ nat8 b := by unfold nat8; rw [List.map_append]
theorem letterN_le {s : ByteArray} {i : Nat} (hi : i < s.size) : i + letterN s i ≤ s.size := by
  rw [letterN_dec hi]
  split
  · omega
  · exact (decode_width_le s i hi).1
/-- More fuel gathers the same. -/
theorem cleanFrom_fuel (s : ByteArray) : ∀ (n m pos : Nat), s.size ≤ pos + n → s.size ≤ pos + m → cleanFrom s n pos = cleanFrom s m pos
  | n, m, pos, hn, hm => by
    by_cases h : pos < s.size
    · obtain ⟨n, rfl⟩ : ∃ k, n = k + 1 := ⟨n - 1, by omega⟩
      obtain ⟨m, rfl⟩ : ∃ k, m = k + 1 := ⟨m - 1, by omega⟩
      have hp : 1 ≤ (Utf8.decode s pos).2 := by rw [decode_drop, Lib.decodeL_N]; exact decodeN_pos _ _ _ _ _
      rw [cleanFrom, cleanFrom, if_pos h, if_pos h, cleanFrom_fuel s n m _ (by omega) (by omega)]
    · have e : ∀ k, cleanFrom s k pos = [] := fun k => by
        cases k with
        | zero => rfl
        | succ k => rw [cleanFrom, if_neg h]
      rw [e, e]
theorem extract_bytes (s : ByteArray) (i n : Nat) (h : i + n ≤ s.size) : bytesOf (s.extract i (i + n)) = nat8 ((s.data.toList.drop i).take n) := by
  unfold bytesOf nat8
  have h1 := Has.part s i n h
  have hl : ((s.data.toList.drop i).take n).length = n := by
    have h5 : s.data.toList.length = s.size := Array.length_toList
    rw [List.length_take, List.length_drop, h5]; omega
  have h2 := h1.extract
  rw [hl] at h2
  rw [h2]

set_option maxRecDepth 100000 in
set_option maxHeartbeats 8000000 in
/-- **voyageref02.Clean.** -/
theorem rClean_any (s : ByteArray) (w : World) (hs : s.size ≤ 17592186044416) :
    Calls Tryz.prog 47 #[.string s] w fun e w' => e = .returned (.string (clean s)) ∧ Below w.heap.size w w' := by
  rw [clean_eq]
  go_enter Tryz.func47, Tryz.ntmps47
  go_wp2_with fail
  go_loopw [3, 4] (fun v i wr => ∃ (pos : Nat) (L : List UInt8), i = .int .i64 pos ∧ pos ≤ s.size ∧ L.length ≤ 3 * pos ∧ wr.ownsRow w.heap.size 5 1 v (nat8 L).length (nums .u8 (nat8 L)) ∧ Below w.heap.size w wr ∧ Aside0 (L ++ cleanFrom s (s.size - pos) pos = cleanFrom s s.size 0)) (fun _ i _ => s.size - (intOf i).toNat)
  case atStart => exact ⟨0, [], rfl, Nat.zero_le _, by simp, own_nil _ _ _ _, Below.refl _ _, ⟨rfl⟩⟩
  case round =>
    obtain ⟨pos, L, rfl, hp, hL, hown, hB, hA⟩ := hrel
    by_cases hlt : pos < s.size
    · have hlt2 : (pos : Int) < (s.size : Int) := by omega
      have cL := fun W => letter_any s pos W (by omega) hlt
      have hle := letterN_le hlt
      have hst := cleanFrom_step (fuel := s.size - pos - 1) hlt
      rw [show s.size - pos - 1 + 1 = s.size - pos by omega] at hst
      have hex := extract_bytes s pos (letterN s pos) hle
      have hnl := nat8_len L
      generalize hn : letterN s pos = n at *
      by_cases hz : n = 0
      · subst hz
        rw [if_pos rfl, if_pos rfl] at hst
        have hA2 : Aside0 ((L ++ [239, 191, 189]) ++ cleanFrom s (s.size - (pos + 1)) (pos + 1) = cleanFrom s s.size 0) := ⟨by
          have := hA.out
          rw [hst] at this
          rw [List.append_assoc, ← this]
          congr 2⟩
        have hbn : Below wr.heap.size wr (wr.alloc (.cells #[.int .u8 239, .int .u8 191, .int .u8 189] 5)) := (Below.refl wr.heap.size wr).alloc (Nat.le_refl _) _
        have hnew := cellAll (heap_alloc_new wr (.cells #[.int .u8 239, .int .u8 191, .int .u8 189] 5))
        have hRI : ReadsInt (wr.alloc (.cells #[.int .u8 239, .int .u8 191, .int .u8 189] 5)) .u8 (some ⟨wr.heap.size, 0, none⟩) 3 (nat8 [239, 191, 189]) := ⟨rfl, by decide, fun _ => ⟨_, rfl, fun j hj => by
          rcases j with _ | _ | _ | j
          · exact hnew 0
          · exact hnew 1
          · exact hnew 2
          · omega⟩⟩
        replace hnew := Aside0.mk hnew
        replace hst := Aside0.mk hst
        clear hex
        go_wp2_with (first
          | ((with_reducible refine gate_builtin (b := .append) (xs := #[.tmp 15, .tmp 16]) rfl ?_); at_builtin; refine print_append_row (w0 := w) w.heap.size rfl (.tmp 15) (.tmp 16) 55 5 .u8 1 rfl Tryz.underlying55 (by kernel_rfl) (by decide) _ (nat8 L) (nat8 [239, 191, 189]) _ 3 3 rfl rfl (pw_own_below hown hbn) hRI (hB.trans (hbn.mono hB.size)) (by have := hB.size; have := hbn.size; omega) (by omega) ?_; intro v1 w1 hown1 hB1 hg1 hat1; clear hg1 hat1)
          | (go_at_call 70; refine (cL _).mono ?_; rintro e w' ⟨rfl, rfl⟩))
        go_roundw
        case rel => exact ⟨pos + 1, L ++ [239, 191, 189], by go_num, by omega, by rw [List.length_append]; simp; omega, by rw [nat8_app]; exact hown1, hB1, hA2⟩
        case measure => simp [intOf]; omega
      · rw [if_neg hz, if_neg hz] at hst
        have hz2 : ((n : Int) == 0) = false := by simp; omega
        have hcf := cleanFrom_fuel s (s.size - pos - 1) (s.size - (pos + n)) (pos + n) (by omega) (by omega)
        have hA2 : Aside0 ((L ++ (s.data.toList.drop pos).take n) ++ cleanFrom s (s.size - (pos + n)) (pos + n) = cleanFrom s s.size 0) := ⟨by
          have := hA.out
          rw [hst] at this
          rw [List.append_assoc, ← this, hcf]⟩
        have hw1 : IntKind.i64.wrap ((pos : Int) + (n : Int)) = ((pos + n : Nat) : Int) := by rw [IntKind.wrap_i64]; omega
        have hle1 : (pos : Int) ≤ ((pos + n : Nat) : Int) := by omega
        have hle2 : ((pos + n : Nat) : Int) ≤ (s.size : Int) := by omega
        have hle3 : (0 : Int) ≤ (pos : Int) := by omega
        have hpn : (((pos + n : Nat) : Int)) = (pos : Int) + (n : Int) := by omega
        have hls : ((s.data.toList.drop pos).take n).length = n := by
          have h5 : s.data.toList.length = s.size := Array.length_toList
          rw [List.length_take, List.length_drop, h5]; omega
        have hxs : (s.extract pos (pos + n)).size = n := by rw [ByteArray.size_extract]; omega
        replace hst := Aside0.mk hst
        replace hcf := Aside0.mk hcf
        replace hex := Aside0.mk hex
        replace hls := Aside0.mk hls
        replace hxs := Aside0.mk hxs
        go_wp2_with (first
          | ((with_reducible refine gate_builtin (b := .append) (xs := #[.tmp 20, .tmp 26]) rfl ?_); at_builtin; refine print_append_str (w0 := w) w.heap.size rfl (.tmp 20) (.tmp 26) 55 9 5 rfl Tryz.underlying55 Tryz.underlying9 (by kernel_rfl) _ (nat8 L) (s.extract pos (pos + n)) rfl rfl hown hB (by have := hB.size; omega) (by rw [hxs.out]; omega) ?_; intro v1 w1 hown1 hB1 hg1; clear hg1)
          | (go_at_call 70; refine (cL _).mono ?_; rintro e w' ⟨rfl, rfl⟩))
        go_roundw
        case rel => exact ⟨pos + n, L ++ (s.data.toList.drop pos).take n, by go_num, by omega, by rw [List.length_append, hls.out]; omega, by rw [nat8_app, ← hex.out]; exact hown1, hB1, hA2⟩
        case measure => simp [intOf]; omega
    · obtain rfl : pos = s.size := by omega
      have hlt2 : decide ((s.size : Int) < (s.size : Int)) = false := by simp
      have hcv := own_string (P := Tryz.prog) (src := 55) (dst := 9) (w := wr) (n := (nat8 L).length) (e' := 5) (e := 5) (base := w.heap.size) Tryz.underlying55 Tryz.underlying5 Tryz.underlying9 hown
      have hend : Aside0 (strOfNums (nat8 L) = ⟨(cleanFrom s s.size 0).toArray⟩) := ⟨by
        have h1 := hA.out
        rw [Nat.sub_self] at h1
        have h2 : cleanFrom s 0 s.size = [] := rfl
        rw [h2, List.append_nil] at h1
        rw [← h1]
        exact strOf_back L⟩
      go_wp2_with fail
      go_ret
      have he2 := hend.out
      refine ⟨?_, hB⟩
      show Ending.returned (.string (strOfNums (nat8 L))) = _
      rw [he2]
end Go.Proofs.YtmfijfcikecglaaGreatDoor
end
section
set_option linter.unusedVariables false
set_option linter.unusedSimpArgs false
namespace Go.Proofs.YtmfijfcikecglaaGreatDoor
open Go Go.RowKit

theorem sevF_all {σ : Type} (s : ByteArray) (c : Nat) (each : Nat → σ → PR σ) (P : σ → Prop) (hw : ∀ i x y j, each i x = .ok y j → P x → P y) : ∀ (n i : Nat) (x y : σ) (j : Nat), sevF s c each n i x = .ok y j → P x → P y
  | 0, i, x, y, j, h, hp => by rw [sevF] at h; cases h
  | n + 1, i, x, y, j, h, hp => by
    rw [sevF] at h
    cases he : each i x with
    | no k e => rw [he] at h; cases h
    | ok z k =>
      rw [he] at h
      simp only at h
      have hz := hw _ _ _ _ he hp
      split at h
      · exact sevF_all s c each P hw n _ _ _ _ h hz
      · split at h
        · injection h with h0 h; subst h0; exact hz
        · cases h
theorem sevAt_all {σ : Type} (s : ByteArray) (c : Nat) (each : Nat → σ → PR σ) (P : σ → Prop) (hw : ∀ i x y j, each i x = .ok y j → P x → P y) {i : Nat} {x y : σ} {j : Nat} (h : sevAt s c each i x = .ok y j) (hp : P x) : P y := by
  unfold sevAt at h
  split at h
  · injection h with h0 h; subst h0; exact hp
  · exact sevF_all s c each P hw _ _ _ _ _ h hp
def ReadDeep (D : Nat) (val : Nat → PR JV) : Prop := ∀ i x j, val i = .ok x j → x.deep ≤ D
theorem itemL_deep {D : Nat} {val : Nat → PR JV} (hv : ReadDeep D val) (i : Nat) (xs ys : List JV) (j : Nat) (h : itemL val i xs = .ok ys j) (hp : JV.deepL xs ≤ D) : JV.deepL ys ≤ D := by
  unfold itemL at h
  cases hx : val i with
  | no k e => rw [hx] at h; cases h
  | ok x k =>
    rw [hx] at h
    injection h with h0 h
    subst h0
    have h1 := hv _ _ _ hx
    rw [deepL_snoc]
    omega
theorem fieldAt_deep {D : Nat} {s : ByteArray} {val : Nat → PR JV} (hv : ReadDeep D val) (i : Nat) (fs gs : List JF) (j : Nat) (h : fieldAt s val i fs = .ok gs j) (hp : JV.deepF fs ≤ D) : JV.deepF gs ≤ D := by
  unfold fieldAt at h
  split at h
  · cases ht : textAt s i with
    | no k e => rw [ht] at h; cases h
    | ok l k =>
      rw [ht] at h
      simp only at h
      split at h
      · cases h
      · split at h
        · cases hx : val (gapTo s (gapTo s k + 1)) with
          | no k2 e => rw [hx] at h; cases h
          | ok x k2 =>
            rw [hx] at h
            have h2 := hv _ _ _ hx
            unfold fieldOf at h
            injection h with h5 h6
            subst h5
            rw [deepF_snoc]
            show max (JV.deepF fs) x.deep ≤ D
            omega
        · cases h
  · cases h
theorem textVal_deep {s : ByteArray} {i : Nat} {x : JV} {j : Nat} (h : textVal s i = .ok x j) : x.deep = 0 := by
  unfold textVal at h
  cases ht : textAt s i with
  | no k e => rw [ht] at h; cases h
  | ok l k =>
    rw [ht] at h
    injection h with h0 h
    subst h0
    rw [JV.deep]; rfl
theorem litAt_deep {s : ByteArray} {i : Nat} {x : JV} {j : Nat} (h : litAt s i = .ok x j) : x.deep = 0 := by
  unfold litAt at h
  repeat' split at h
  all_goals (first | (injection h with h0 h; subst h0; unfold JV.nul; rw [JV.deep]; rfl) | (injection h with h0 h; subst h0; rw [JV.deep]; rfl) | cases h)
theorem numberAt_deep {s : ByteArray} {i : Nat} {x : JV} {j : Nat} (h : numberAt s i = .ok x j) : x.deep = 0 := by
  unfold numberAt at h
  repeat' split at h
  all_goals (first | (injection h with h0 h; subst h0; rw [JV.deep]; rfl) | cases h)
theorem valWith_deep {D : Nat} {s : ByteArray} {lst obj : PR JV} {i : Nat} (hl : ∀ x j, lst = .ok x j → x.deep ≤ D) (ho : ∀ x j, obj = .ok x j → x.deep ≤ D) {x : JV} {j : Nat} (h : valWith s lst obj i = .ok x j) : x.deep ≤ D := by
  unfold valWith at h
  split at h
  · exact hl _ _ h
  · split at h
    · exact ho _ _ h
    · split at h
      · rw [textVal_deep h]; exact Nat.zero_le _
      · split at h
        · rw [numberAt_deep h]; exact Nat.zero_le _
        · rw [litAt_deep h]; exact Nat.zero_le _
/-- What is read with so many brackets is no deeper. -/
theorem valF_deep (s : ByteArray) : ∀ (D : Nat), ReadDeep D (valF s D)
  | 0, i, x, j, h => by
    rw [valF] at h
    exact valWith_deep (fun x j h => by cases h) (fun x j h => by cases h) h
  | D + 1, i, x, j, h => by
    rw [valF] at h
    refine valWith_deep (fun x j h => ?_) (fun x j h => ?_) h
    · cases hp : sevAt s 93 (itemL (valF s D)) i [] with
      | no k e => rw [hp] at h; cases h
      | ok xs k =>
        rw [hp] at h
        injection h with h0 h
        have h1 := sevAt_all s 93 _ (fun l => JV.deepL l ≤ D) (itemL_deep (valF_deep s D)) hp (Nat.zero_le _)
        subst h0
        rw [JV.deep]
        show 1 + JV.deepL xs ≤ D + 1
        have : JV.deepL xs ≤ D := h1
        omega
    · cases hp : sevAt s 125 (fieldAt s (valF s D)) i [] with
      | no k e => rw [hp] at h; cases h
      | ok xs k =>
        rw [hp] at h
        injection h with h0 h
        have h1 := sevAt_all s 125 _ (fun l => JV.deepF l ≤ D) (fieldAt_deep (valF_deep s D)) hp (Nat.zero_le _)
        subst h0
        rw [JV.deep]
        show 1 + JV.deepF xs ≤ D + 1
        have : JV.deepF xs ≤ D := h1
        omega
end Go.Proofs.YtmfijfcikecglaaGreatDoor
end
