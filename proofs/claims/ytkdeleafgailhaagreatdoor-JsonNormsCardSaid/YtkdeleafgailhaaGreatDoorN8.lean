/- The shelf's contract of utf8.ValidString at this program. json.clean and json.quoted: what they write. Plain facts on the digits of a text. Contracts of package dec: bare, form, Norm, Text. Contracts of json.fields and json.Norm. -/
import Derived.Test.YtkdeleafgailhaaGreatDoorN7
import Derived.Test.YtkdeleafgailhaaGreatDoorN2
import Derived.Test.YtkdeleafgailhaaGreatDoorN6
import Derived.WalkKit
import Derived.BigCall
import Derived.Outline
import Derived.Lib.MapLaws
import Derived.Lib.TrimUEq
import Derived.Lib.TrimAscii
import Derived.Test.YtkdeleafgailhaaGreatDoorN3
import Derived.Shelf.Strings.MapGrows
import Derived.Lib.ItoaLen
import Derived.Lib.AppendIntMem
import Derived.Shelf.Unicode.PredsPay
import Derived.Test.YtkdeleafgailhaaGreatDoorN5
import Derived.WalkSpells
import Derived.Test.YtkdeleafgailhaaGreatDoorN4
import Derived.Deep.RegionWith
section
namespace Go.Proofs
open Go.Shelf
open Go.RowKit in
theorem Tryz.utf8_ValidString (s : ByteArray) (w : World) (hs : s.size ≤ 9223372036854775807) (hT : Lib.Utf8Tabs 5 6 w) :
    Calls Tryz.prog 67 #[.string s] w fun e w' => e = .returned (.bool (Lib.validD s.data.toList)) ∧ Below w.heap.size w w' := Any.utf8_ValidString Tryz.lays196 s w hs hT
end Go.Proofs
end
section
set_option linter.unusedVariables false
set_option linter.unusedSimpArgs false
namespace Go.Proofs.YtkdeleafgailhaaGreatDoor
open Go Go.RowKit Go.Proofs.YtkdeleafgailhaaGreatDoorW.PrintWords

theorem width_pos (s : ByteArray) (pos : Nat) (h : pos < s.size) : 1 ≤ (Utf8.decode s pos).2 := by
  by_cases ha : (s[pos]'h).toNat < 128
  · rw [decode_ascii s pos h ha]
    exact Nat.le_refl _
  · exact (decode_high s pos h (by omega)).2
theorem cleanFrom_end (s : ByteArray) (fuel pos : Nat) (h : ¬ pos < s.size) : cleanFrom s fuel pos = [] := by
  cases fuel with
  | zero => rfl
  | succ f => simp [cleanFrom, h]
theorem quoteFrom_end (s : ByteArray) (fuel pos : Nat) (h : ¬ pos < s.size) : quoteFrom s fuel pos = [] := by
  cases fuel with
  | zero => rfl
  | succ f => simp [quoteFrom, h]

set_option maxHeartbeats 4000000 in
set_option maxRecDepth 1000000 in
theorem clean_any (s : ByteArray) (w : World) (hs : s.size ≤ 35184372088832) (hT : Lib.Utf8Tabs 5 6 w) :
    Calls Tryz.prog 34 #[.string s] w fun e w' => e = .returned (.string (clean s)) ∧ Below w.heap.size w w' := by
  have cV : Calls Tryz.prog 67 #[.string s] w _ := Tryz.utf8_ValidString s w (by omega) hT
  by_cases hv : Lib.validD s.data.toList = true
  · have hc : clean s = s := by unfold clean; rw [if_pos hv]
    rw [hc]
    rw [hv] at cV
    clear hT
    go_enter Tryz.func34, Tryz.ntmps34
    go_wp2_with (go_at_call 67; refine cV.mono ?_; rintro e w' ⟨rfl, hb⟩)
    go_ret
    exact ⟨rfl, hb⟩
  · have hc : clean s = ⟨(cleanFrom s s.size 0).toArray⟩ := by unfold clean; rw [if_neg hv]
    rw [hc]
    have hv' : Lib.validD s.data.toList = false := by simpa using hv
    rw [hv'] at cV
    clear hT hc hv hv'
    go_enter Tryz.func34, Tryz.ntmps34
    go_wp2_with (go_at_call 67; refine cV.mono ?_; rintro e W ⟨rfl, hb0⟩)
    go_loopw [] (fun wr => ∃ (pos fuel : Nat) (acc : List UInt8), IsB W.heap.size W.heap.size acc wr ∧ wr.heap[W.heap.size + 1]? = some (.stringIter s pos) ∧ Below W.heap.size W wr ∧ Aside0 (acc ++ cleanFrom s fuel pos = cleanFrom s s.size 0) ∧ s.size ≤ pos + fuel ∧ acc.length ≤ 4 * pos) (fun wr => s.size - wr.iterPos (W.heap.size + 1))
    case atStart =>
      refine ⟨0, s.size, [], (IsB.fresh W).alloc _, ?_, ((Below.refl _ W).alloc (Nat.le_refl _) _).alloc (by simp) _, ⟨rfl⟩, by omega, by simp⟩
      have := World.iter_heap (W.alloc (.cells #[.pointer none, .slice none 0 0] 101)) s 0
      simpa using this
    case round =>
      obtain ⟨pos, fuel, acc, hI, hit, hbw, hacc, hfu, hal⟩ := hrel
      have hsz : W.heap.size + 1 < wr.heap.size := (Array.getElem?_eq_some_iff.1 hit).1
      by_cases hp : pos < s.size
      · have hnx : ∀ ty, (Instr.next (.pointer (some ⟨W.heap.size + 1, 0, none⟩)) true ty).run Tryz.prog wr = _ := fun ty => Lib.run_next_any_at wr (W.heap.size + 1) s pos ty hit hp
        have hwd := width_pos s pos hp
        have hd1 := decode_le s pos
        have hI2 := hI.iterAt hit (pos + (Utf8.decode s pos).2)
        have hit2 := Lib.iterAt_heap wr (W.heap.size + 1) s pos (pos + (Utf8.decode s pos).2) hit
        have hbw2 := Lib.below_iterAt hbw (k := W.heap.size + 1) (by omega) s (pos + (Utf8.decode s pos).2)
        have hsz2 : W.heap.size ≤ (wr.iterAt (W.heap.size + 1) s (pos + (Utf8.decode s pos).2)).heap.size := by rw [Lib.iterAt_size]; omega
        obtain ⟨f, rfl⟩ : ∃ f, fuel = f + 1 := ⟨fuel - 1, by omega⟩
        go_wp2_with (go_at_call 68; refine (writeRune_k W.heap.size W.heap.size acc _ (by omega) (by omega) _ hI2 (by omega) hsz2).mono ?_)
        rintro e W1 ⟨rfl, h1, b1, k1⟩
        go_wp2
        go_roundw
        case rel =>
          have hl4 := Lib.runeCells_le ((Utf8.decode s pos).1 : Int)
          rw [Lib.runeCells_length] at hl4
          refine ⟨pos + (Utf8.decode s pos).2, f, acc ++ Lib.encodeRune (Utf8.decode s pos).1, h1, k1.iter hit2 (by omega), hbw2.trans b1, ⟨?_⟩, by omega, by simp; omega⟩
          rw [← hacc.out]; simp [cleanFrom, hp]
        case measure =>
          simp only [World.iterPos, k1.iter hit2 (by omega), hit]
          omega
      · have hnx : ∀ ty, (Instr.next (.pointer (some ⟨W.heap.size + 1, 0, none⟩)) true ty).run Tryz.prog wr = _ := fun ty => Lib.run_next_end_at wr (W.heap.size + 1) s pos ty hit hp
        go_wp2_with (go_at_call 65; refine (string_k W.heap.size W.heap.size acc _ hI (by omega)).mono ?_)
        rintro e W1 ⟨rfl, _, b1, _⟩
        go_wp2
        go_ret
        have hacc := hacc.out
        rw [cleanFrom_end s fuel pos hp, List.append_nil] at hacc
        exact ⟨by rw [hacc]; rfl, hb0.trans ((hbw.trans b1).mono hb0.size)⟩

/-! ### quoted -/
theorem quoteRune_le (r : Nat) : (quoteRune r).length ≤ 8 := by
  have hl4 := Lib.runeCells_le (r : Int)
  rw [Lib.runeCells_length] at hl4
  unfold quoteRune
  repeat' split
  all_goals simp
  all_goals omega

/-- What a round of the loop leaves. -/
def QRel (B b k : Nat) (s : ByteArray) (W : World) (l : List UInt8) (wr : World) : Prop :=
  ∃ (pos fuel : Nat) (acc : List UInt8), QS B b k s pos W acc wr ∧ Aside0 (acc ++ quoteFrom s fuel pos = l ++ [34] ++ quoteFrom s s.size 0) ∧ s.size ≤ pos + fuel ∧ acc.length ≤ l.length + 1 + 8 * min pos s.size
theorem quote_step {B b k : Nat} {s : ByteArray} {pos f r d : Nat} {W : World} {l acc acc' : List UInt8} {W1 : World} (hQ : QS B b k s (pos + d) W acc' W1) (hp : pos < s.size) (hr : (Utf8.decode s pos).1 = r) (hd : (Utf8.decode s pos).2 = d)
    (hacc : Aside0 (acc ++ quoteFrom s (f + 1) pos = l ++ [34] ++ quoteFrom s s.size 0)) (hq : acc' = acc ++ quoteRune r) (hfu : s.size ≤ pos + (f + 1)) (hal : acc.length ≤ l.length + 1 + 8 * min pos s.size) : QRel B b k s W l W1 := by
  have hwd := width_pos s pos hp
  have hl8 := quoteRune_le r
  rw [hd] at hwd
  subst hq
  refine ⟨pos + d, f, _, hQ, ⟨?_⟩, by omega, ?_⟩
  · rw [← hacc.out]
    simp [quoteFrom, hp, hr, hd]
  · rw [List.length_append]
    omega
theorem quote_less {B b k : Nat} {s : ByteArray} {pos d : Nat} {W : World} {acc acc' : List UInt8} {W1 wr : World} (hQ : QS B b k s (pos + d) W acc' W1) (hQ0 : QS B b k s pos W acc wr) (hp : pos < s.size) (hwd : 1 ≤ d) : s.size - W1.iterPos k < s.size - wr.iterPos k := by
  simp only [World.iterPos, hQ.iter, hQ0.iter]
  omega
theorem byte_le (u : UInt8) : (u.toNat : Int) ≤ 255 := by have := u.toNat_lt; omega
theorem byte_back (u : UInt8) : ((u.toNat : Int).toNat).toUInt8 = u := by simp
theorem hexGet (k : Nat) (hk : k < 16) : ∀ h : k < (⟨#[48, 49, 50, 51, 52, 53, 54, 55, 56, 57, 97, 98, 99, 100, 101, 102]⟩ : ByteArray).size, (⟨#[48, 49, 50, 51, 52, 53, 54, 55, 56, 57, 97, 98, 99, 100, 101, 102]⟩ : ByteArray)[k]'h = hexd k := by
  have : k = 0 ∨ k = 1 ∨ k = 2 ∨ k = 3 ∨ k = 4 ∨ k = 5 ∨ k = 6 ∨ k = 7 ∨ k = 8 ∨ k = 9 ∨ k = 10 ∨ k = 11 ∨ k = 12 ∨ k = 13 ∨ k = 14 ∨ k = 15 := by omega
  rcases this with h | h | h | h | h | h | h | h | h | h | h | h | h | h | h | h <;> subst h <;> intro _ <;> rfl
theorem and15 (r : Nat) (h : r < 32) : Go.bits .and .i32 (r : Int) 15 = ((r % 16 : Nat) : Int) := by
  have : r = 0 ∨ r = 1 ∨ r = 2 ∨ r = 3 ∨ r = 4 ∨ r = 5 ∨ r = 6 ∨ r = 7 ∨ r = 8 ∨ r = 9 ∨ r = 10 ∨ r = 11 ∨ r = 12 ∨ r = 13 ∨ r = 14 ∨ r = 15 ∨ r = 16 ∨ r = 17 ∨ r = 18 ∨ r = 19 ∨ r = 20 ∨ r = 21 ∨ r = 22 ∨ r = 23 ∨ r = 24 ∨ r = 25 ∨ r = 26 ∨ r = 27 ∨ r = 28 ∨ r = 29 ∨ r = 30 ∨ r = 31 := by omega
  rcases this with h | h | h | h | h | h | h | h | h | h | h | h | h | h | h | h | h | h | h | h | h | h | h | h | h | h | h | h | h | h | h | h <;> subst h <;> decide

set_option maxHeartbeats 4000000 in
set_option maxRecDepth 1000000 in
theorem quoted_any (B b : Nat) (l : List UInt8) (s : ByteArray) (w : World) (h : IsB B b l w) (hB : B ≤ w.heap.size) (hlen : l.length + 8 * s.size + 16 ≤ 140737488355328) :
    Calls Tryz.prog 63 #[.pointer (some ⟨b, 0, none⟩), .string s] w fun e w' => e = .returned (.tuple #[]) ∧ IsB B b (l ++ quoted s) w' ∧ Below B w w' ∧ Others b w w' := by
  go_enter Tryz.func63, Tryz.ntmps63
  go_wp2_with (go_at_call 64; refine (writeByte_k B b l 34 (by omega) (by omega) _ h (by omega) hB).mono ?_; rintro e W ⟨rfl, h1, hb1, ho1⟩)
  have hBW : B ≤ W.heap.size := Nat.le_trans hB hb1.size
  have hbW : b < W.heap.size := by
    rcases h1 with h1 | h1
    · obtain ⟨_, v, hb, _⟩ := h1
      exact (Array.getElem?_eq_some_iff.1 hb).1
    · obtain ⟨_, v, hb, _⟩ := h1
      exact (Array.getElem?_eq_some_iff.1 hb).1
  go_loopw [] (fun wr => QRel B b W.heap.size s W l wr) (fun wr => s.size - wr.iterPos W.heap.size)
  case atStart =>
    refine ⟨0, s.size, l ++ [34], ⟨Lib.IsBuilderF.alloc h1 _, ?_, (Below.refl B W).alloc hBW _, (Lib.OthersKept.refl _ _ W).alloc _, Nat.le_trans hBW ((Below.refl B W).alloc hBW _).size, by omega⟩, ⟨rfl⟩, by omega, by simp⟩
    have := World.iter_heap W s 0
    simpa using this
  case round =>
    obtain ⟨pos, fuel, acc, hQ, hacc, hfu, hal⟩ := hrel
    have hit := hQ.iter
    by_cases hp : pos < s.size
    · obtain ⟨r, hr⟩ : ∃ r, (Utf8.decode s pos).1 = r := ⟨_, rfl⟩
      obtain ⟨d, hd⟩ : ∃ d, (Utf8.decode s pos).2 = d := ⟨_, rfl⟩
      have hnx : ∀ ty, (Instr.next (.pointer (some ⟨W.heap.size, 0, none⟩)) true ty).run Tryz.prog wr = _ := fun ty => Lib.run_next_any_at wr W.heap.size s pos ty hit hp
      rw [hr, hd] at hnx
      have hwd := width_pos s pos hp
      have hd1 := decode_le s pos
      rw [hr] at hd1
      rw [hd] at hwd
      have hQ2 := hQ.next (Nat.le_refl _) hBW (pos + d)
      obtain ⟨f, rfl⟩ : ∃ f, fuel = f + 1 := ⟨fuel - 1, by omega⟩
      have hl0 : acc.length + 16 ≤ 140737488355328 := by omega
      by_cases c1 : r = 34
      · subst c1
        go_wp2_with (first
          | (go_at_call 64; refine (writeByte_q hQ2 (by omega) 92 (by omega) (by omega)).mono ?_; rintro e W1 ⟨rfl, hQ3⟩)
          | (go_at_call 68; refine (writeRune_q hQ3 (by simp; omega) _ (by omega) (by omega)).mono ?_; rintro e W2 ⟨rfl, hQ4⟩))
        go_roundw
        case rel => exact quote_step hQ4 hp hr hd hacc (by simp [quoteRune]) hfu hal
        case measure => exact quote_less hQ4 hQ hp hwd
      by_cases c2 : r = 92
      · subst c2
        go_wp2_with (first
          | (go_at_call 64; refine (writeByte_q hQ2 (by omega) 92 (by omega) (by omega)).mono ?_; rintro e W1 ⟨rfl, hQ3⟩)
          | (go_at_call 68; refine (writeRune_q hQ3 (by simp; omega) _ (by omega) (by omega)).mono ?_; rintro e W2 ⟨rfl, hQ4⟩))
        go_roundw
        case rel => exact quote_step hQ4 hp hr hd hacc (by simp [quoteRune]) hfu hal
        case measure => exact quote_less hQ4 hQ hp hwd
      by_cases c3 : r = 8
      · subst c3
        go_wp2_with (go_at_call 61; refine (writeString_q hQ2 ⟨#[92, 98]⟩ (by show acc.length + 2 ≤ _; omega)).mono ?_; rintro e W1 ⟨rfl, hQ3⟩)
        go_roundw
        case rel => exact quote_step hQ3 hp hr hd hacc (by simp [quoteRune]) hfu hal
        case measure => exact quote_less hQ3 hQ hp hwd
      by_cases c4 : r = 9
      · subst c4
        go_wp2_with (go_at_call 61; refine (writeString_q hQ2 ⟨#[92, 116]⟩ (by show acc.length + 2 ≤ _; omega)).mono ?_; rintro e W1 ⟨rfl, hQ3⟩)
        go_roundw
        case rel => exact quote_step hQ3 hp hr hd hacc (by simp [quoteRune]) hfu hal
        case measure => exact quote_less hQ3 hQ hp hwd
      by_cases c5 : r = 10
      · subst c5
        go_wp2_with (go_at_call 61; refine (writeString_q hQ2 ⟨#[92, 110]⟩ (by show acc.length + 2 ≤ _; omega)).mono ?_; rintro e W1 ⟨rfl, hQ3⟩)
        go_roundw
        case rel => exact quote_step hQ3 hp hr hd hacc (by simp [quoteRune]) hfu hal
        case measure => exact quote_less hQ3 hQ hp hwd
      by_cases c6 : r = 12
      · subst c6
        go_wp2_with (go_at_call 61; refine (writeString_q hQ2 ⟨#[92, 102]⟩ (by show acc.length + 2 ≤ _; omega)).mono ?_; rintro e W1 ⟨rfl, hQ3⟩)
        go_roundw
        case rel => exact quote_step hQ3 hp hr hd hacc (by simp [quoteRune]) hfu hal
        case measure => exact quote_less hQ3 hQ hp hwd
      by_cases c7 : r = 13
      · subst c7
        go_wp2_with (go_at_call 61; refine (writeString_q hQ2 ⟨#[92, 114]⟩ (by show acc.length + 2 ≤ _; omega)).mono ?_; rintro e W1 ⟨rfl, hQ3⟩)
        go_roundw
        case rel => exact quote_step hQ3 hp hr hd hacc (by simp [quoteRune]) hfu hal
        case measure => exact quote_less hQ3 hQ hp hwd
      by_cases c8 : r < 32
      · have b1 : ((r : Int) == 34) = false := by simp; omega
        have b2 : ((r : Int) == 92) = false := by simp; omega
        have b3 : ((r : Int) == 8) = false := by simp; omega
        have b4 : ((r : Int) == 9) = false := by simp; omega
        have b5 : ((r : Int) == 10) = false := by simp; omega
        have b6 : ((r : Int) == 12) = false := by simp; omega
        have b7 : ((r : Int) == 13) = false := by simp; omega
        have ha := and15 r c8
        go_wp2_with (first
          | (go_at_call 61; refine (writeString_q hQ2 ⟨#[92, 117, 48, 48]⟩ (by show acc.length + 4 ≤ _; omega)).mono ?_; rintro e W1 ⟨rfl, hQ3⟩)
          | (go_at_call 64; refine (writeByte_q hQ3 (by show (acc ++ [92, 117, 48, 48]).length + 8 ≤ _; simp only [List.length_append, List.length_cons, List.length_nil]; omega) _ (Int.natCast_nonneg _) (byte_le _)).mono ?_; rintro e W2 ⟨rfl, hQ4⟩; clear hQ3)
          | (go_at_call 64; refine (writeByte_q hQ4 (by simp only [List.length_append, List.length_cons, List.length_nil]; omega) _ (Int.natCast_nonneg _) (byte_le _)).mono ?_; rintro e W3 ⟨rfl, hQ5⟩; clear hQ4))
        go_roundw
        case rel => exact quote_step hQ5 hp hr hd hacc (by rw [byte_back, byte_back, hexGet _ (by omega), hexGet _ (by omega)]; simp [quoteRune, c1, c2, c3, c4, c5, c6, c7, c8]) hfu hal
        case measure => exact quote_less hQ5 hQ hp hwd
      · have b1 : ((r : Int) == 34) = false := by simp; omega
        have b2 : ((r : Int) == 92) = false := by simp; omega
        have b3 : ((r : Int) == 8) = false := by simp; omega
        have b4 : ((r : Int) == 9) = false := by simp; omega
        have b5 : ((r : Int) == 10) = false := by simp; omega
        have b6 : ((r : Int) == 12) = false := by simp; omega
        have b7 : ((r : Int) == 13) = false := by simp; omega
        go_wp2_with (go_at_call 68; refine (writeRune_q hQ2 (by omega) _ (by omega) (by omega)).mono ?_; rintro e W2 ⟨rfl, hQ4⟩)
        go_roundw
        case rel => exact quote_step hQ4 hp hr hd hacc (by simp [quoteRune, c1, c2, c3, c4, c5, c6, c7, c8]) hfu hal
        case measure => exact quote_less hQ4 hQ hp hwd
    · have hnx : ∀ ty, (Instr.next (.pointer (some ⟨W.heap.size, 0, none⟩)) true ty).run Tryz.prog wr = _ := fun ty => Lib.run_next_end_at wr W.heap.size s pos ty hit hp
      go_wp2_with (go_at_call 64; refine (writeByte_k B b acc 34 (by omega) (by omega) _ hQ.isB (by omega) hQ.size).mono ?_; rintro e W1 ⟨rfl, h3, hb3, ho3⟩)
      go_end0
      have hacc := hacc.out
      rw [quoteFrom_end s fuel pos hp, List.append_nil] at hacc
      refine ⟨rfl, ?_, hb1.trans (hQ.below.trans hb3), ho1.trans (hQ.others.trans ho3)⟩
      have e1 : l ++ quoted s = acc ++ [(Int.toNat 34).toUInt8] := by rw [hacc]; simp [quoted]
      rw [e1]
      exact h3
end Go.Proofs.YtkdeleafgailhaaGreatDoor
end
section
set_option linter.unusedVariables false
namespace Go.Proofs.YtkdeleafgailhaaGreatDoor
open Go
theorem decodeN_two (n b0 b1 b2 b3 : Nat) (h : 128 ≤ b0) (hd : (Lib.decodeN n b0 b1 b2 b3).2 ≠ 1) :
    (1 < n ∧ 128 ≤ b1) ∧ (2 < (Lib.decodeN n b0 b1 b2 b3).2 → 2 < n ∧ 128 ≤ b2) ∧ (3 < (Lib.decodeN n b0 b1 b2 b3).2 → 3 < n ∧ 128 ≤ b3) ∧ (Lib.decodeN n b0 b1 b2 b3).2 ≤ 4 := by
  unfold Lib.decodeN at hd ⊢
  repeat' split
  all_goals simp_all
  all_goals omega
theorem decodeN_high (n b0 b1 b2 b3 : Nat) (h : 128 ≤ b0) : 128 ≤ (Lib.decodeN n b0 b1 b2 b3).1 := by
  unfold Lib.decodeN
  repeat' split
  all_goals simp_all
  all_goals omega
/-- What a decoder takes at a byte that is not ASCII is not ASCII. -/
theorem decodeL_bytes (b : UInt8) (t : List UInt8) (h : 128 ≤ b.toNat) : 128 ≤ (Lib.decodeL (b :: t)).1 ∧ ∀ x ∈ (b :: t).take (Lib.decodeL (b :: t)).2, 128 ≤ x.toNat := by
  rw [Lib.decodeL_N]
  refine ⟨decodeN_high _ _ _ _ _ h, ?_⟩
  generalize hn : (b :: t).length = n
  by_cases hd : (Lib.decodeN n ((b :: t).getD 0 0).toNat ((b :: t).getD 1 0).toNat ((b :: t).getD 2 0).toNat ((b :: t).getD 3 0).toNat).2 = 1
  · rw [hd]
    intro x hx
    simp at hx
    rw [hx]; exact h
  · obtain ⟨h1, h2, h3, h4⟩ := decodeN_two n ((b :: t).getD 0 0).toNat ((b :: t).getD 1 0).toNat ((b :: t).getD 2 0).toNat ((b :: t).getD 3 0).toNat h hd
    generalize (Lib.decodeN n ((b :: t).getD 0 0).toNat ((b :: t).getD 1 0).toNat ((b :: t).getD 2 0).toNat ((b :: t).getD 3 0).toNat).2 = d at h2 h3 h4 ⊢
    intro x hx
    obtain ⟨i, hi, rfl⟩ := List.mem_iff_getElem.1 hx
    simp only [List.length_take] at hi
    rw [List.getElem_take]
    have e : ∀ j (hj : j < (b :: t).length), (b :: t)[j] = (b :: t).getD j 0 := fun j hj => by simp [List.getD_eq_getElem?_getD, List.getElem?_eq_getElem hj]
    rw [e i (by omega)]
    have hi4 : i = 0 ∨ i = 1 ∨ i = 2 ∨ i = 3 := by omega
    rcases hi4 with rfl | rfl | rfl | rfl
    · exact h
    · exact h1.2
    · exact (h2 (by omega)).2
    · exact (h3 (by omega)).2
def isDigitB (b : UInt8) : Bool := decide (48 ≤ b.toNat) && decide (b.toNat ≤ 57)
theorem filter_high (l : List UInt8) (h : ∀ x ∈ l, 128 ≤ x.toNat) : l.filter isDigitB = [] := by
  apply List.filter_eq_nil_iff.2
  intro x hx
  have := h x hx
  simp [isDigitB]
  omega
/-- A text's digits alone. -/
theorem mapD_digits : ∀ (n : Nat) (l : List UInt8), l.length ≤ n → Lib.mapD keepDigit l = l.filter isDigitB
  | _, [], _ => rfl
  | 0, b :: t, h => by simp at h
  | n + 1, b :: t, h => by
    rw [Lib.mapD_step _ _ (by simp)]
    have hle := Lib.decodeL_le (b :: t) (by simp)
    have hw := Lib.decodeL_width (b :: t)
    have ih := mapD_digits n ((b :: t).drop (Lib.decodeL (b :: t)).2) (by simp only [List.length_drop]; simp only [List.length_cons] at h ⊢; omega)
    rw [ih]
    by_cases ha : b.toNat < 128
    · rw [Lib.decodeL_ascii b t ha]
      simp only [List.drop_succ_cons, List.drop_zero]
      by_cases hd : isDigitB b = true
      · have h48 : 48 ≤ b.toNat ∧ b.toNat ≤ 57 := by simpa [isDigitB] using hd
        have e1 : keepDigit ((b.toNat : Nat) : Int) = b.toNat := by unfold keepDigit; rw [if_neg (by omega), if_neg (by omega)]
        rw [e1, if_pos (by omega), List.filter_cons_of_pos hd]
        have e2 : Lib.encodeRune (b.toNat : Int) = [b] := by
          unfold Lib.encodeRune
          rw [Lib.encodeRuneZ_one (by omega) (by omega)]
          simp
        rw [e2]
        rfl
      · have h48 : ¬ (48 ≤ b.toNat ∧ b.toNat ≤ 57) := by simpa [isDigitB] using hd
        have e1 : keepDigit ((b.toNat : Nat) : Int) = -1 := by
          unfold keepDigit
          by_cases hlt : ((b.toNat : Nat) : Int) < 48
          · rw [if_pos hlt]
          · rw [if_neg hlt, if_pos (by omega)]
        rw [e1, if_neg (by omega), List.filter_cons_of_neg hd]
        rfl
    · obtain ⟨hr, hb⟩ := decodeL_bytes b t (by omega)
      have e1 : keepDigit (((Lib.decodeL (b :: t)).1 : Nat) : Int) = -1 := by
        unfold keepDigit
        rw [if_neg (by omega), if_pos (by omega)]
      rw [e1, if_neg (by omega), List.nil_append]
      conv => rhs; rw [← List.take_append_drop (Lib.decodeL (b :: t)).2 (b :: t)]
      rw [List.filter_append, filter_high _ hb, List.nil_append]
theorem decBare_eq (s : ByteArray) : decBare s = ⟨((s.data.toList.filter isDigitB).dropWhile (· == 48)).toArray⟩ := by
  unfold decBare Lib.trimLeftB
  rw [mapD_digits _ _ (Nat.le_refl _)]
theorem size_mk (l : List UInt8) : (⟨l.toArray⟩ : ByteArray).size = l.length := by show l.toArray.size = _; simp
theorem decBare_size (s : ByteArray) : (decBare s).size ≤ s.size := by
  rw [decBare_eq, size_mk]
  have h1 := (List.dropWhile_sublist (fun b : UInt8 => b == 48) (l := s.data.toList.filter isDigitB)).length_le
  have h2 := List.length_filter_le isDigitB s.data.toList
  have h3 : s.data.toList.length = s.size := by rw [Array.length_toList]; rfl
  omega
theorem decShort_size (s : ByteArray) : (decShort s).size ≤ s.size := by
  unfold decShort Lib.trimRightB
  rw [size_mk, List.length_reverse]
  have h1 := (List.dropWhile_sublist (fun b : UInt8 => b == 48) (l := s.data.toList.reverse)).length_le
  have h3 : s.data.toList.length = s.size := by rw [Array.length_toList]; rfl
  rw [List.length_reverse] at h1
  omega
theorem decDrop_range (s : ByteArray) : 0 ≤ decDrop s ∧ decDrop s ≤ s.size := by
  have := decShort_size s
  unfold decDrop
  omega
end Go.Proofs.YtkdeleafgailhaaGreatDoor
end
section
set_option linter.unusedVariables false
set_option linter.unusedSimpArgs false
namespace Go.Proofs.YtkdeleafgailhaaGreatDoor
open Go Go.RowKit Go.Proofs.YtkdeleafgailhaaGreatDoorW.PrintWords

/-- What the contracts ask of the library's tables. -/
structure Facts (w : World) : Prop where
  tabs : Lib.Utf8Tabs 5 6 w
  pow : Lib.TabIs Tryz.prog w "internal/strconv.uint64pow10" .u64 Lib.pow10Tab
theorem Facts.below {w w' : World} (h : Facts w) (hb : Below w.heap.size w w') : Facts w' :=
  ⟨Utf8Tabs_below h.tabs hb, TabIs_below (g := 13) (by kernel_rfl) h.pow hb⟩

set_option maxHeartbeats 1000000 in
theorem keep_any (W : World) (x : Nat) (hx : x ≤ 1114111) : Calls Tryz.prog 120 #[.int .i32 x] W fun e w' => e = .returned (.int .i32 (keepDigit x)) ∧ Below W.heap.size W w' := by
  by_cases h1 : (x : Int) < 48
  · have hk : keepDigit x = -1 := by unfold keepDigit; rw [if_pos h1]
    rw [hk]
    go_enter Tryz.func120, Tryz.ntmps120
    go_wp2
    go_ret
    exact ⟨rfl, Below.refl _ _⟩
  · by_cases h2 : (57 : Int) < x
    · have hk : keepDigit x = -1 := by unfold keepDigit; rw [if_neg h1, if_pos h2]
      rw [hk]
      go_enter Tryz.func120, Tryz.ntmps120
      go_wp2
      go_ret
      exact ⟨rfl, Below.refl _ _⟩
    · have hk : keepDigit x = x := by unfold keepDigit; rw [if_neg h1, if_neg h2]
      rw [hk]
      go_enter Tryz.func120, Tryz.ntmps120
      go_wp2
      go_ret
      exact ⟨rfl, Below.refl _ _⟩
theorem keep_grows (w : World) : MapGrows Tryz.prog 120 #[] keepDigit w := fun W x hx _ => keep_any W x hx

set_option maxHeartbeats 1000000 in
theorem bare_any (s : ByteArray) (w : World) (hs : s.size ≤ 4294967296) (hF : Facts w) :
    Calls Tryz.prog 95 #[.string s] w fun e w' => e = .returned (.string (decBare s)) ∧ Below w.heap.size w w' := by
  have cM := Tryz.strings_Map_grows 120 #[] (enters_of Tryz.func120 (by kernel_rfl) rfl) keepDigit s w (by omega) (keep_grows w) (by intro x hx; unfold keepDigit; split <;> (try split) <;> omega) hF.tabs
  clear hF
  unfold decBare
  generalize Lib.mapD keepDigit s.data.toList = M at cM ⊢
  go_enter Tryz.func95, Tryz.ntmps95
  go_wp2_with (first
    | (go_at_call 119; refine cM.mono ?_; rintro e w' ⟨rfl, hb⟩)
    | (go_at_call 121; refine (Tryz.strings_TrimLeft_one _ 48 (by decide) _).mono ?_; rintro e w2 ⟨rfl, rfl⟩))
  go_ret
  exact ⟨rfl, hb⟩

theorem toList_loop (s : ByteArray) : ∀ (n i : Nat) (r : List UInt8), s.size - i = n → ByteArray.toList.loop s i r = r.reverse ++ s.data.toList.drop i
  | 0, i, r, h => by
    unfold ByteArray.toList.loop
    have h' : ¬ i < s.size := by omega
    rw [if_neg h']
    have : s.data.toList.drop i = [] := List.drop_eq_nil_of_le (by rw [Array.length_toList]; show s.size ≤ i; omega)
    rw [this, List.append_nil]
  | n + 1, i, r, h => by
    unfold ByteArray.toList.loop
    have h' : i < s.size := by omega
    rw [if_pos h', toList_loop s n (i + 1) _ (by omega)]
    have hl : i < s.data.toList.length := by rw [Array.length_toList]; exact h'
    rw [List.drop_eq_getElem_cons hl, List.reverse_cons, List.append_assoc]
    congr 2
    have : s.get! i = s.data.toList[i] := by
      have h2 : i < s.data.size := h'
      show s.data[i]! = _
      rw [getElem!_pos s.data i h2]; simp
    rw [this]; rfl
theorem toList_eq (s : ByteArray) : s.toList = s.data.toList := by
  unfold ByteArray.toList
  rw [toList_loop s s.size 0 [] (by omega)]
  rfl
theorem toList_len (s : ByteArray) : s.toList.length = s.size := by rw [toList_eq, Array.length_toList]; rfl
theorem toList_nil {s : ByteArray} (h : s.size = 0) : s.toList = [] := List.eq_nil_of_length_eq_zero (by rw [toList_len, h])
theorem toList_ne {s : ByteArray} (h : ¬ s.size = 0) : s.toList ≠ [] := fun h' => h (by rw [← toList_len, h']; rfl)
theorem cellAll {w : World} {B : Nat} {cur : Array Value} {t : TypeId} (h : w.heap[B]? = some (.cells cur t (0, 0))) : ∀ j, w.cell? ⟨B, j, none⟩ = cur[j]? := fun j => by simp [World.cell?, h]
theorem heapA {w : World} {B : Nat} {x : Obj} (h : w.heap[B]? = some x) (o : Obj) : (w.alloc o).heap[B]? = some x := (heap_alloc_old w o (Array.getElem?_eq_some_iff.1 h).1).trans h
theorem cellAllA {w : World} {B : Nat} {cur : Array Value} {t : TypeId} (h : w.heap[B]? = some (.cells cur t (0, 0))) : ∀ o j, (w.alloc o).cell? ⟨B, j, none⟩ = cur[j]? := fun o j => by simp [World.cell?, heapA h o]
theorem frozenAllA {w : World} {B : Nat} {cur : Array Value} {t : TypeId} (h : w.heap[B]? = some (.cells cur t (0, 0))) : ∀ o j, (w.alloc o).frozen? ⟨B, j, none⟩ = false := fun o j => by simp [World.frozen?, heapA h o]
theorem frozenAll {w : World} {B : Nat} {cur : Array Value} {t : TypeId} (h : w.heap[B]? = some (.cells cur t (0, 0))) : ∀ j, w.frozen? ⟨B, j, none⟩ = false := fun j => by simp [World.frozen?, h]

set_option maxHeartbeats 1000000 in
theorem clone_any (s : ByteArray) (w : World) (hs : s.size ≤ 281474976710656) : Calls Tryz.prog 97 #[.string s] w fun e w' => e = .returned (.string s) ∧ Below w.heap.size w w' := by
  go_enter Tryz.func97, Tryz.ntmps97
  go_wp2_with (go_at_call 126; refine (Tryz.stringslite_Clone s _ hs).mono ?_; rintro e w' ⟨rfl, hb⟩)
  go_ret
  exact ⟨rfl, hb⟩

set_option maxRecDepth 100000 in
set_option maxHeartbeats 2000000 in
theorem form_any (neg : Bool) (digits : ByteArray) (exp : Int) (w : World) (hs : digits.size ≤ 4294967296) (he0 : -9223372036854775808 ≤ exp) (he1 : exp ≤ 9223372036854775807) (hF : Facts w) :
    Calls Tryz.prog 66 #[.bool neg, .string digits, .int .i64 exp] w fun e w' => e = .returned (.tuple #[.agg #[.bool (decForm neg digits exp).1.neg, .string (decForm neg digits exp).1.digits, .int .i64 (decForm neg digits exp).1.exp], .bool (decForm neg digits exp).2]) ∧ Below w.heap.size w w' := by
  have hB0 := (Below.refl _ w).alloc (Nat.le_refl _) (.cells #[.bool false, .string ⟨#[]⟩, .int .i64 0] 23)
  have cB := bare_any digits (w.alloc (.cells #[.bool false, .string ⟨#[]⟩, .int .i64 0] 23)) hs (hF.below hB0)
  have hnew : (w.alloc (.cells #[.bool false, .string ⟨#[]⟩, .int .i64 0] 23)).heap[w.heap.size]? = some (.cells #[.bool false, .string ⟨#[]⟩, .int .i64 0] 23 (0, 0)) := heap_alloc_new w _
  have hdl := decBare_size digits
  clear hF
  unfold decForm
  generalize decBare digits = D at cB hdl ⊢
  replace hnew := Aside0.mk hnew
  replace hB0 := Aside0.mk hB0
  by_cases h0 : D.size = 0
  · rw [if_pos h0]
    have hd1 := toList_nil h0
    have hd2 : D.toList.isEmpty = true := by rw [hd1]; rfl
    go_enter Tryz.func66, Tryz.ntmps66
    go_wp2_with (go_at_call 95; refine cB.mono ?_; rintro e w' ⟨rfl, hb⟩; have hb' := hb.block w.heap.size (by simp); have hc := cellAll (hb'.trans hnew.out); have hf := frozenAll (hb'.trans hnew.out); clear hb')
    refine bodyPost_ret (v := .tuple #[.agg #[.bool false, .string ⟨#[]⟩, .int .i64 0], .bool true]) (by simp [results, Tryz.results66, go_sem, hc]) rfl ⟨rfl, ?_⟩
    exact below_set (below_set (below_set (hB0.out.trans (hb.mono (by simp))) (Nat.le_refl _)) (Nat.le_refl _)) (Nat.le_refl _)
  · rw [if_neg h0]
    have hd1 := toList_ne h0
    have hd2 : D.toList.isEmpty = false := by simpa using hd1
    have hD0 := decDrop_range D
    have hdd : ((D.size : Int) - ((decShort D).size : Int)) = decDrop D := rfl
    have hTR := fun W => Tryz.strings_TrimRight_one D 48 (by decide) W (by omega)
    have hSl := decShort_size D
    have hSe : (⟨(Lib.trimRightB D.data.toList 48).toArray⟩ : ByteArray) = decShort D := rfl
    rw [hSe] at hTR
    generalize decShort D = S at hTR hSl hdd ⊢
    generalize decDrop D = n at hD0 hdd ⊢
    by_cases h1 : 9999 - n < exp
    · rw [if_pos h1]
      clear hSe
      go_enter Tryz.func66, Tryz.ntmps66
      go_wp2_with (first
        | (go_at_call 95; refine cB.mono ?_; rintro e w' ⟨rfl, hb⟩; have hb' := hb.block w.heap.size (by simp); have hc := cellAll (hb'.trans hnew.out); have hf := frozenAll (hb'.trans hnew.out); clear hb')
        | (go_at_call 96; refine (hTR _).mono ?_; rintro e w2 ⟨rfl, rfl⟩))
      refine bodyPost_ret (v := .tuple #[.agg #[.bool false, .string ⟨#[]⟩, .int .i64 0], .bool false]) (by simp [results, Tryz.results66, go_sem, hc]) rfl ⟨rfl, below_set (below_set (below_set (hB0.out.trans (hb.mono (by simp))) (Nat.le_refl _)) (Nat.le_refl _)) (Nat.le_refl _)⟩
    · rw [if_neg h1]
      by_cases h2 : exp < -9999 - n
      · rw [if_pos h2]
        clear hSe
        go_enter Tryz.func66, Tryz.ntmps66
        go_wp2_with (first
          | (go_at_call 95; refine cB.mono ?_; rintro e w' ⟨rfl, hb⟩; have hb' := hb.block w.heap.size (by simp); have hc := cellAll (hb'.trans hnew.out); have hf := frozenAll (hb'.trans hnew.out); clear hb')
          | (go_at_call 96; refine (hTR _).mono ?_; rintro e w2 ⟨rfl, rfl⟩))
        refine bodyPost_ret (v := .tuple #[.agg #[.bool false, .string ⟨#[]⟩, .int .i64 0], .bool false]) (by simp [results, Tryz.results66, go_sem, hc]) rfl ⟨rfl, below_set (below_set (below_set (hB0.out.trans (hb.mono (by simp))) (Nat.le_refl _)) (Nat.le_refl _)) (Nat.le_refl _)⟩
      · rw [if_neg h2]
        clear hSe
        have hw : -9223372036854775808 ≤ exp + n ∧ exp + n ≤ 9223372036854775807 := by omega
        go_enter Tryz.func66, Tryz.ntmps66
        go_wp2_with (first
          | (go_at_call 95; refine cB.mono ?_; rintro e w' ⟨rfl, hb⟩; have hb' := hb.block w.heap.size (by simp); have hc := cellAll (hb'.trans hnew.out); have hf := frozenAll (hb'.trans hnew.out); clear hb')
          | (go_at_call 96; refine (hTR _).mono ?_; rintro e w2 ⟨rfl, rfl⟩)
          | (go_at_call 97; refine (clone_any S _ (by omega)).mono ?_; rintro e w3 ⟨rfl, hb3⟩; have hb' := (hb3.block w.heap.size (by have := hb.size; simp at this; omega)).trans ((hb.block w.heap.size (by simp)).trans hnew.out); clear hc hf; have hc := cellAll hb'; have hf := frozenAll hb'; clear hb'))
        refine bodyPost_ret (v := .tuple #[.agg #[.bool neg, .string S, .int .i64 (exp + n)], .bool true]) (by simp [results, Tryz.results66, go_sem, hc]) rfl ⟨rfl, below_set (below_set (below_set ((hB0.out.trans (hb.mono (by simp))).trans (hb3.mono (by have := hb.size; simp at this; omega))) (Nat.le_refl _)) (Nat.le_refl _)) (Nat.le_refl _)⟩

set_option maxRecDepth 100000 in
set_option maxHeartbeats 2000000 in
theorem decNorm_any (neg : Bool) (digits : ByteArray) (exp : Int) (w : World) (hs : digits.size ≤ 4294967296) (he0 : -9223372036854775808 ≤ exp) (he1 : exp ≤ 9223372036854775807) (hF : Facts w) :
    Calls Tryz.prog 33 #[.agg #[.bool neg, .string digits, .int .i64 exp]] w fun e w' => e = .returned (.agg #[.bool (decNorm neg digits exp).neg, .string (decNorm neg digits exp).digits, .int .i64 (decNorm neg digits exp).exp]) ∧ Below w.heap.size w w' := by
  have hB0 := ((Below.refl _ w).alloc (Nat.le_refl _) (.cells #[.bool neg, .string digits, .int .i64 exp] 23)).alloc (by simp) (.cells #[.bool false, .string ⟨#[]⟩, .int .i64 0] 23)
  have cF := form_any neg digits exp _ hs he0 he1 (hF.below hB0)
  clear hF
  unfold decNorm
  generalize (decForm neg digits exp).1 = D at cF ⊢
  generalize (decForm neg digits exp).2 = ok at cF ⊢
  replace hB0 := Aside0.mk hB0
  have hnew : ((w.alloc (.cells #[.bool neg, .string digits, .int .i64 exp] 23)).alloc (.cells #[.bool false, .string ⟨#[]⟩, .int .i64 0] 23)).heap[w.heap.size + 1]? = some (.cells #[.bool false, .string ⟨#[]⟩, .int .i64 0] 23 (0, 0)) := by
    have := heap_alloc_new (w.alloc (.cells #[.bool neg, .string digits, .int .i64 exp] 23)) (.cells #[.bool false, .string ⟨#[]⟩, .int .i64 0] 23)
    simpa using this
  replace hnew := Aside0.mk hnew
  go_enter Tryz.func33, Tryz.ntmps33
  go_wp2_with (go_at_call 66; refine cF.mono ?_; rintro e w' ⟨rfl, hb⟩; have hb' := (hb.block (w.heap.size + 1) (by simp)).trans hnew.out; have hc := cellAllA hb'; have hf := frozenAllA hb'; clear hb')
  refine bodyPost_ret (v := .agg #[.bool D.neg, .string D.digits, .int .i64 D.exp]) (by simp [results, Tryz.results33, go_sem, hc]) rfl ⟨rfl, ?_⟩
  have hsz := hb.size
  simp at hsz
  exact below_set (below_set (below_set ((hB0.out.trans (hb.mono (by simp; omega))).alloc (by omega) _) (by omega)) (by omega)) (by omega)

theorem decForm_bounds (neg : Bool) (digits : ByteArray) (exp : Int) : (decForm neg digits exp).1.digits.size ≤ digits.size ∧ -9999 ≤ (decForm neg digits exp).1.exp ∧ (decForm neg digits exp).1.exp ≤ 9999 := by
  unfold decForm
  split
  · exact ⟨Nat.zero_le _, by decide, by decide⟩
  · split
    · exact ⟨Nat.zero_le _, by decide, by decide⟩
    · split
      · exact ⟨Nat.zero_le _, by decide, by decide⟩
      · refine ⟨Nat.le_trans (decShort_size _) (decBare_size _), ?_, ?_⟩ <;> (show _ ≤ _) <;> (try simp only []) <;> omega
theorem bytes_eq {a b : ByteArray} (h : a.data.toList = b.data.toList) : a = b := ByteArray.ext (Array.toList_inj.1 h)

set_option maxRecDepth 100000 in
set_option maxHeartbeats 4000000 in
theorem decText_any (neg : Bool) (digits : ByteArray) (exp : Int) (w : World) (hs : digits.size ≤ 4294967296) (he0 : -9223372036854775808 ≤ exp) (he1 : exp ≤ 9223372036854775807) (hF : Facts w) :
    Calls Tryz.prog 62 #[.agg #[.bool neg, .string digits, .int .i64 exp]] w fun e w' => e = .returned (.string ⟨(decText neg digits exp).toArray⟩) ∧ Below w.heap.size w w' := by
  have hB0 := ((Below.refl _ w).alloc (Nat.le_refl _) (.cells #[.bool neg, .string digits, .int .i64 exp] 23))
  have cN := decNorm_any neg digits exp _ hs he0 he1 (hF.below hB0)
  have hDb := decForm_bounds neg digits exp
  unfold decText
  have hDn : (decForm neg digits exp).1 = decNorm neg digits exp := rfl
  rw [hDn] at hDb
  clear hDn
  generalize decNorm neg digits exp = D at cN hDb ⊢
  have hI := fun (W : World) (h : Lib.TabIs Tryz.prog W "internal/strconv.uint64pow10" .u64 Lib.pow10Tab) => Tryz.strconv_Itoa D.exp (by omega) (by omega) W h
  have hIl := Lib.itoa_length_le D.exp (by omega) (by omega)
  have hIs : (⟨(Lib.itoa D.exp).toArray⟩ : ByteArray).size = (Lib.itoa D.exp).length := size_mk _
  have hT : ((⟨(Lib.itoa D.exp).toArray⟩ : ByteArray)).data.toList = Lib.itoa D.exp := rfl
  generalize (⟨(Lib.itoa D.exp).toArray⟩ : ByteArray) = T at hI hIs hT
  rw [← hIs] at hIl
  have hnew : (w.alloc (.cells #[.bool neg, .string digits, .int .i64 exp] 23)).heap[w.heap.size]? = some (.cells #[.bool neg, .string digits, .int .i64 exp] 23 (0, 0)) := heap_alloc_new _ _
  replace hnew := Aside0.mk hnew
  replace hB0 := Aside0.mk hB0
  have hF0 := Aside0.mk hF
  have hL := hDb.1
  clear hF hDb
  by_cases h0 : D.digits.size = 0
  · rw [if_pos h0]
    have hd1 := toList_nil h0
    have hd2 : D.digits.toList.isEmpty = true := by rw [hd1]; rfl
    go_enter Tryz.func62, Tryz.ntmps62
    go_wp2_with (go_at_call 33; refine cN.mono ?_; rintro e w' ⟨rfl, hb⟩; have hb' := (hb.block w.heap.size (by simp)).trans hnew.out; have hc := cellAll hb'; have hf := frozenAll hb'; clear hb')
    go_ret
    exact ⟨rfl, below_set (below_set (below_set (hB0.out.trans (hb.mono (by simp))) (Nat.le_refl _)) (Nat.le_refl _)) (Nat.le_refl _)⟩
  · rw [if_neg h0]
    have hd1 := toList_ne h0
    have hd2 : D.digits.toList.isEmpty = false := by simpa using hd1
    have hR : ∀ (R : ByteArray) (L : List UInt8) (w' : World), R.data.toList = L → Below w.heap.size w w' → (Ending.returned (Value.string R) = .returned (.string ⟨L.toArray⟩) ∧ Below w.heap.size w w') := by
      rintro R L w' rfl hb
      exact ⟨by congr, hb⟩
    by_cases hn : D.neg = true
    · rw [if_pos hn]
      by_cases he : D.exp = 0
      · rw [if_pos he]
        have hb1 : (D.exp == 0) = true := by simpa using he
        have hb2 : (D.exp != 0) = false := by simpa using he
        go_enter Tryz.func62, Tryz.ntmps62
        go_wp2_with (go_at_call 33; refine cN.mono ?_; rintro e w' ⟨rfl, hb⟩; have hb' := (hb.block w.heap.size (by simp)).trans hnew.out; have hc := cellAll hb'; have hf := frozenAll hb'; clear hb')
        go_ret
        exact hR _ _ _ (by simp [ByteArray.data_append]) (below_set (below_set (below_set (hB0.out.trans (hb.mono (by simp))) (Nat.le_refl _)) (Nat.le_refl _)) (Nat.le_refl _))
      · rw [if_neg he]
        have hb1 : (D.exp == 0) = false := by simpa using he
        have hb2 : (D.exp != 0) = true := by simpa using he
        go_enter Tryz.func62, Tryz.ntmps62
        go_wp2_with (first
          | (go_at_call 33; refine cN.mono ?_; rintro e w' ⟨rfl, hb⟩; have hb' := (hb.block w.heap.size (by simp)).trans hnew.out; have hc := cellAll hb'; have hf := frozenAll hb'; clear hb')
          | (go_at_call 94; refine (hI _ (hF0.out.below (below_set (below_set (below_set (hB0.out.trans (hb.mono (by simp))) (Nat.le_refl _)) (Nat.le_refl _)) (Nat.le_refl _))).pow).mono ?_; rintro e w3 ⟨rfl, k, os, rfl⟩))
        go_ret
        exact hR _ _ _ (by simp [ByteArray.data_append, hT]) ((below_set (below_set (below_set (hB0.out.trans (hb.mono (by simp))) (Nat.le_refl _)) (Nat.le_refl _)) (Nat.le_refl _)).trans (Lib.below_grow _ _ (by have := hb.size; simp at this ⊢; omega) k os))
    · have hn' : D.neg = false := by simpa using hn
      rw [if_neg hn]
      by_cases he : D.exp = 0
      · rw [if_pos he]
        have hb1 : (D.exp == 0) = true := by simpa using he
        have hb2 : (D.exp != 0) = false := by simpa using he
        go_enter Tryz.func62, Tryz.ntmps62
        go_wp2_with (go_at_call 33; refine cN.mono ?_; rintro e w' ⟨rfl, hb⟩; have hb' := (hb.block w.heap.size (by simp)).trans hnew.out; have hc := cellAll hb'; have hf := frozenAll hb'; clear hb')
        go_ret
        exact hR _ _ _ (by simp [ByteArray.data_append]) (below_set (below_set (below_set (hB0.out.trans (hb.mono (by simp))) (Nat.le_refl _)) (Nat.le_refl _)) (Nat.le_refl _))
      · rw [if_neg he]
        have hb1 : (D.exp == 0) = false := by simpa using he
        have hb2 : (D.exp != 0) = true := by simpa using he
        go_enter Tryz.func62, Tryz.ntmps62
        go_wp2_with (first
          | (go_at_call 33; refine cN.mono ?_; rintro e w' ⟨rfl, hb⟩; have hb' := (hb.block w.heap.size (by simp)).trans hnew.out; have hc := cellAll hb'; have hf := frozenAll hb'; clear hb')
          | (go_at_call 94; refine (hI _ (hF0.out.below (below_set (below_set (below_set (hB0.out.trans (hb.mono (by simp))) (Nat.le_refl _)) (Nat.le_refl _)) (Nat.le_refl _))).pow).mono ?_; rintro e w3 ⟨rfl, k, os, rfl⟩))
        go_ret
        exact hR _ _ _ (by simp [ByteArray.data_append, hT]) ((below_set (below_set (below_set (hB0.out.trans (hb.mono (by simp))) (Nat.le_refl _)) (Nat.le_refl _)) (Nat.le_refl _)).trans (Lib.below_grow _ _ (by have := hb.size; simp at this ⊢; omega) k os))
end Go.Proofs.YtkdeleafgailhaaGreatDoor
end
section
set_option linter.unusedVariables false
set_option linter.unusedSimpArgs false
namespace Go.Proofs.YtkdeleafgailhaaGreatDoor
open Go Go.RowKit Go.Proofs.YtkdeleafgailhaaGreatDoorW.PrintWords

/-- What Norm does at one value. -/
def NormOK (x : JV) : Prop := ∀ (w : World) (cs : List Value), kV.K w x cs → Facts w → x.wt ≤ 4294967296 → x.ints →
  Calls Tryz.prog 9 #[.agg cs.toArray] w fun e w' => ∃ cs', e = .returned (.agg cs'.toArray) ∧ kV.M w' w.heap.size (fun _ => True) x.norm cs' ∧ Below w.heap.size w w'
theorem R_nilV (e : Nat) (w : World) (base : Nat) : kV.R e w base (fun _ => True) (.slice none 0 0) [] := ⟨fun _ _ => trivial, [], own_nil _ _ _ _, Reps.none _ _⟩
theorem R_nilF (e : Nat) (w : World) (base : Nat) : kF.R e w base (fun _ => True) (.slice none 0 0) [] := ⟨fun _ _ => trivial, [], own_nil _ _ _ _, Reps.none _ _⟩

theorem boxes (w : World) (a b : Obj) : ((w.alloc a).alloc b).drew.heap[w.heap.size]? = some a ∧ ((w.alloc a).alloc b).drew.heap[w.heap.size + 1]? = some b := by
  refine ⟨(heap_alloc_old (w.alloc a) b (by simp)).trans (heap_alloc_new w a), ?_⟩
  have := heap_alloc_new (w.alloc a) b
  rw [show (w.alloc a).heap.size = w.heap.size + 1 by simp] at this
  exact this

theorem R_sets {W W1 : World} {g base : Nat} {v : Value} {out : List JF} {u0 u1 u2 u3 u4 u5 u6 u7 : Value} (h : kF.R 69 W1 W.heap.size (fun _ => True) v out) (hg : g < W.heap.size) (hb : base ≤ W.heap.size) :
    kF.R 69 ((((((((W1.setCell ⟨g, 0, none⟩ u0).setCell ⟨g, 1, none⟩ u1).setCell ⟨g, 2, none⟩ u2).setCell ⟨g, 3, none⟩ u3).setCell ⟨g, 4, none⟩ u4).setCell ⟨g, 5, none⟩ u5).setCell ⟨g, 6, none⟩ u6).setCell ⟨g, 7, none⟩ u7) base (fun _ => True) v out := by
  refine Kd.R_lower (Kd.R_mono (Kd.R_keep (ok := fun k => W.heap.size ≤ k) (g := g) (Kd.R_mono (Kd.R_bound h) (fun k hk => hk.2.1)) ?_ (fun k hk => by omega)) (fun _ _ => trivial)) hb
  exact ((((((((KeepBut.refl _ _ _).set_ _ _).set_ _ _).set_ _ _).set_ _ _).set_ _ _).set_ _ _).set_ _ _).set_ _ _

set_option maxRecDepth 100000 in
set_option maxHeartbeats 4000000 in
theorem norm_num (w : World) (t ng : Bool) (ds tx : ByteArray) (ex : Int) (A B : Option Addr) (nl c nf d : Nat) (hF : Facts w) (hs : ds.size ≤ 4294967296) (he0 : -9223372036854775808 ≤ ex) (he1 : ex ≤ 9223372036854775807) :
    Calls Tryz.prog 9 #[.agg #[.int .i64 2, .bool t, .bool ng, .string ds, .int .i64 ex, .string tx, .slice A nl c, .slice B nf d]] w fun e w' => ∃ cs', e = .returned (.agg cs'.toArray) ∧ kV.M w' w.heap.size (fun _ => True) (.mk 2 false (decNorm ng ds ex).neg (decNorm ng ds ex).digits (decNorm ng ds ex).exp ⟨#[]⟩ [] []) cs' ∧ Below w.heap.size w w' := by
  have hB0 := ((Below.refl _ w).alloc (Nat.le_refl _) (.cells #[.int .i64 2, .bool t, .bool ng, .string ds, .int .i64 ex, .string tx, .slice A nl c, .slice B nf d] 27)).alloc (by simp) (.cells #[.int .i64 0, .bool false, .bool false, .string ⟨#[]⟩, .int .i64 0, .string ⟨#[]⟩, .slice none 0 0, .slice none 0 0] 27)
  have hF2 := Aside0.mk (hF.below (below_drew hB0))
  obtain ⟨e0, e1⟩ := boxes w (.cells #[.int .i64 2, .bool t, .bool ng, .string ds, .int .i64 ex, .string tx, .slice A nl c, .slice B nf d] 27) (.cells #[.int .i64 0, .bool false, .bool false, .string ⟨#[]⟩, .int .i64 0, .string ⟨#[]⟩, .slice none 0 0, .slice none 0 0] 27)
  replace e0 := Aside0.mk e0
  replace e1 := Aside0.mk e1
  have cN := fun W h => decNorm_any ng ds ex W hs he0 he1 h
  generalize decNorm ng ds ex = D at cN ⊢
  replace hB0 := Aside0.mk hB0
  clear hF
  go_enter Tryz.func9, Tryz.ntmps9
  go_wp2_with fail
  go_region_with (go_at_call 33; refine (cN _ hF2.out).mono ?_; rintro e w' ⟨rfl, hb⟩; have hb0 := (hb.block w.heap.size (by simp <;> omega)).trans e0.out; have hb1 := (hb.block (w.heap.size + 1) (by simp <;> omega)).trans e1.out; have hc0 := cellAll hb0; have hf0 := frozenAll hb0; have hc1 := cellAll hb1; have hf1 := frozenAll hb1; clear hb0 hb1)
  all_goals (go_wp2_with fail)
  all_goals (refine bodyPost_ret (v := .agg #[.int .i64 2, .bool false, .bool D.neg, .string D.digits, .int .i64 D.exp, .string ⟨#[]⟩, .slice none 0 0, .slice none 0 0]) (by simp [results, Tryz.results9, go_sem, hc1]) rfl ⟨[.int .i64 2, .bool false, .bool D.neg, .string D.digits, .int .i64 D.exp, .string ⟨#[]⟩, .slice none 0 0, .slice none 0 0], rfl, ?_, ?_⟩)
  all_goals (first
    | (iterate 8 refine below_set ?_ (by omega)
       exact (below_drew hB0.out).trans (hb.mono (by simp <;> omega)))
    | exact kV_mkM (x := .mk 2 false D.neg D.digits D.exp ⟨#[]⟩ [] []) (R_nilV _ _ _) (R_nilF _ _ _))

set_option maxRecDepth 100000 in
set_option maxHeartbeats 4000000 in
theorem norm_text (w : World) (t ng : Bool) (ds tx : ByteArray) (ex : Int) (A B : Option Addr) (nl c nf d : Nat) (hF : Facts w) (hs : tx.size ≤ 4294967296) :
    Calls Tryz.prog 9 #[.agg #[.int .i64 3, .bool t, .bool ng, .string ds, .int .i64 ex, .string tx, .slice A nl c, .slice B nf d]] w fun e w' => ∃ cs', e = .returned (.agg cs'.toArray) ∧ kV.M w' w.heap.size (fun _ => True) (.mk 3 false false ⟨#[]⟩ 0 (clean tx) [] []) cs' ∧ Below w.heap.size w w' := by
  have hB0 := ((Below.refl _ w).alloc (Nat.le_refl _) (.cells #[.int .i64 3, .bool t, .bool ng, .string ds, .int .i64 ex, .string tx, .slice A nl c, .slice B nf d] 27)).alloc (by simp) (.cells #[.int .i64 0, .bool false, .bool false, .string ⟨#[]⟩, .int .i64 0, .string ⟨#[]⟩, .slice none 0 0, .slice none 0 0] 27)
  have hF2 := Aside0.mk (hF.below (below_drew hB0))
  obtain ⟨e0, e1⟩ := boxes w (.cells #[.int .i64 3, .bool t, .bool ng, .string ds, .int .i64 ex, .string tx, .slice A nl c, .slice B nf d] 27) (.cells #[.int .i64 0, .bool false, .bool false, .string ⟨#[]⟩, .int .i64 0, .string ⟨#[]⟩, .slice none 0 0, .slice none 0 0] 27)
  replace e0 := Aside0.mk e0
  replace e1 := Aside0.mk e1
  have cN := fun W (h : Facts W) => clean_any tx W (by omega) h.tabs
  generalize clean tx = D at cN ⊢
  replace hB0 := Aside0.mk hB0
  clear hF
  go_enter Tryz.func9, Tryz.ntmps9
  go_wp2_with fail
  go_region_with (go_at_call 34; refine (cN _ hF2.out).mono ?_; rintro e w' ⟨rfl, hb⟩; have hb0 := (hb.block w.heap.size (by simp <;> omega)).trans e0.out; have hb1 := (hb.block (w.heap.size + 1) (by simp <;> omega)).trans e1.out; have hc0 := cellAll hb0; have hf0 := frozenAll hb0; have hc1 := cellAll hb1; have hf1 := frozenAll hb1; clear hb0 hb1)
  all_goals (go_wp2_with fail)
  all_goals (refine bodyPost_ret (v := .agg #[.int .i64 3, .bool false, .bool false, .string ⟨#[]⟩, .int .i64 0, .string D, .slice none 0 0, .slice none 0 0]) (by simp [results, Tryz.results9, go_sem, hc1]) rfl ⟨[.int .i64 3, .bool false, .bool false, .string ⟨#[]⟩, .int .i64 0, .string D, .slice none 0 0, .slice none 0 0], rfl, ?_, ?_⟩)
  all_goals (first
    | (iterate 8 refine below_set ?_ (by omega)
       exact (below_drew hB0.out).trans (hb.mono (by simp <;> omega)))
    | exact kV_mkM (x := .mk 3 false false ⟨#[]⟩ 0 D [] []) (R_nilV _ _ _) (R_nilF _ _ _))

set_option maxRecDepth 100000 in
set_option maxHeartbeats 4000000 in
theorem norm_fields (w : World) (t ng : Bool) (ds tx : ByteArray) (ex : Int) (A B : Option Addr) (nl c nf d : Nat) (hF : Facts w) (fs out : List JF) (hC : kF.C w B nf fs) (hnd : nf ≤ d) (hf : ∀ W, kF.C W B nf fs → Facts W → Calls Tryz.prog 35 #[.slice B nf d] W fun e w' => ∃ v, e = .returned v ∧ kF.R 69 w' W.heap.size (fun _ => True) v out ∧ Below W.heap.size W w') :
    Calls Tryz.prog 9 #[.agg #[.int .i64 5, .bool t, .bool ng, .string ds, .int .i64 ex, .string tx, .slice A nl c, .slice B nf d]] w fun e w' => ∃ cs', e = .returned (.agg cs'.toArray) ∧ kV.M w' w.heap.size (fun _ => True) (.mk 5 false false ⟨#[]⟩ 0 ⟨#[]⟩ [] out) cs' ∧ Below w.heap.size w w' := by
  have hB0 := ((Below.refl _ w).alloc (Nat.le_refl _) (.cells #[.int .i64 5, .bool t, .bool ng, .string ds, .int .i64 ex, .string tx, .slice A nl c, .slice B nf d] 27)).alloc (by simp) (.cells #[.int .i64 0, .bool false, .bool false, .string ⟨#[]⟩, .int .i64 0, .string ⟨#[]⟩, .slice none 0 0, .slice none 0 0] 27)
  have hF2 := Aside0.mk (hF.below (below_drew hB0))
  obtain ⟨e0, e1⟩ := boxes w (.cells #[.int .i64 5, .bool t, .bool ng, .string ds, .int .i64 ex, .string tx, .slice A nl c, .slice B nf d] 27) (.cells #[.int .i64 0, .bool false, .bool false, .string ⟨#[]⟩, .int .i64 0, .string ⟨#[]⟩, .slice none 0 0, .slice none 0 0] 27)
  replace e0 := Aside0.mk e0
  replace e1 := Aside0.mk e1
  have hC2 := Kd.C_below hC (below_drew hB0)
  replace hC2 := Aside0.mk hC2
  clear hC
  replace hB0 := Aside0.mk hB0
  clear hF
  go_enter Tryz.func9, Tryz.ntmps9
  go_wp2_with fail
  go_region_with (go_at_call 35; refine (hf _ hC2.out hF2.out).mono ?_; rintro e w' ⟨v, rfl, hR, hb⟩; obtain ⟨VA, vc, rfl⟩ := Kd.R_slice hR; replace hR := Aside0.mk hR; have hb0 := (hb.block w.heap.size (by simp <;> omega)).trans e0.out; have hb1 := (hb.block (w.heap.size + 1) (by simp <;> omega)).trans e1.out; have hc0 := cellAll hb0; have hf0 := frozenAll hb0; have hc1 := cellAll hb1; have hf1 := frozenAll hb1; clear hb0 hb1)
  all_goals (go_wp2_with fail)
  all_goals (refine bodyPost_ret (v := .agg #[.int .i64 5, .bool false, .bool false, .string ⟨#[]⟩, .int .i64 0, .string ⟨#[]⟩, .slice none 0 0, .slice VA out.length vc]) (by simp [results, Tryz.results9, go_sem, hc1]) rfl ⟨[.int .i64 5, .bool false, .bool false, .string ⟨#[]⟩, .int .i64 0, .string ⟨#[]⟩, .slice none 0 0, .slice VA out.length vc], rfl, ?_, ?_⟩)
  all_goals (first
    | (iterate 8 refine below_set ?_ (by omega)
       exact (below_drew hB0.out).trans (hb.mono (by simp <;> omega)))
    | exact kV_mkM (x := .mk 5 false false ⟨#[]⟩ 0 ⟨#[]⟩ [] out) (R_nilV _ _ _) (R_sets hR.out (by simp <;> omega) (by simp <;> omega)))
end Go.Proofs.YtkdeleafgailhaaGreatDoor
end
