/- json's reader: text: plain. -/
import Derived.Test.YtkdeleafgailhaaGreatDoorN15
import Derived.Test.YtkdeleafgailhaaGreatDoorN9
import Derived.Lib.QuoteLoop
section
set_option linter.unusedVariables false
set_option linter.unusedSimpArgs false
namespace Go.Proofs.YtkdeleafgailhaaGreatDoor
open Go Go.RowKit Go.Proofs.YtkdeleafgailhaaGreatDoorW.PrintWords

/-! ### plain -/
/-- The faults that a reading may come to. -/
inductive PE where
  | due | deep | twice | text | number | exponent
def ErrV.at_ (E : ErrV) : PE → Addr
  | .due => E.due
  | .deep => E.deep
  | .twice => E.twice
  | .text => E.text
  | .number => E.number
  | .exponent => E.exponent
/-- What a reading gives: what was read, and the place behind it; or the fault's place and kind. -/
inductive PR (α : Type) where
  | ok (x : α) (i : Nat)
  | no (i : Nat) (e : PE)
/-- The letter at a place within a text, and how many bytes it has there; 0: a fault. -/
def letAt (s : ByteArray) (j : Nat) : Nat × Nat :=
  if j = s.size ∨ byteAt s j < 32 then (0, 0)
  else if byteAt s j = 92 then escAt s j
  else if (Utf8.decode s j).1 = 65533 ∧ (Utf8.decode s j).2 = 1 then ((Utf8.decode s j).1, 0)
  else Utf8.decode s j
def textF (s : ByteArray) : Nat → Nat → List UInt8 → PR (List UInt8)
  | 0, j, _ => .no j .text
  | n + 1, j, acc =>
    if byteAt s j = 34 then .ok acc (j + 1)
    else if (letAt s j).2 = 0 then .no j .text
    else textF s n (j + (letAt s j).2) (acc ++ Lib.encodeRune (letAt s j).1)
/-- A text, from its quote on. -/
def textAt (s : ByteArray) (i : Nat) : PR (List UInt8) := textF s (s.size + 1) (i + 1) []

theorem unitAt_size {s : ByteArray} {i : Nat} (h : (unitAt s i).2 = true) : i + 6 ≤ s.size := by
  unfold unitAt at h
  split at h
  · cases h
  · omega
theorem unitAt_size2 {s : ByteArray} {i : Nat} (h : 0 < (unitAt s i).1) : i + 6 ≤ s.size := by
  unfold unitAt at h
  split at h
  · exact absurd h (by show ¬ 0 < 0; omega)
  · omega
theorem escAt_le (s : ByteArray) (i : Nat) (hi : i ≤ s.size) : i + (escAt s i).2 ≤ s.size ∧ (escAt s i).1 ≤ 1114111 := by
  unfold escAt
  split
  · exact ⟨by show i + 0 ≤ s.size; omega, by show 0 ≤ 1114111; omega⟩
  · rename_i h0
    split
    · rename_i v hv
      refine ⟨by show i + 2 ≤ s.size; omega, ?_⟩
      show v ≤ 1114111
      unfold shortEsc at hv
      repeat' split at hv
      all_goals (first | (injection hv with hv; omega) | cases hv)
    · split
      · exact ⟨by show i + 0 ≤ s.size; omega, by show 0 ≤ 1114111; omega⟩
      · rename_i h2
        have h6 := unitAt_size (s := s) (i := i) (by simpa using h2)
        have hu := unitAt_le s i
        have hu2 := unitAt_le s (i + 6)
        split
        · exact ⟨by show i + 6 ≤ s.size; omega, by show (unitAt s i).1 ≤ 1114111; omega⟩
        · split
          · rename_i h3
            have h7 := unitAt_size2 (s := s) (i := i + 6) (by omega)
            exact ⟨by show i + 12 ≤ s.size; omega, by show ((unitAt s i).1 - 55296) * 1024 + ((unitAt s (i + 6)).1 - 56320) + 65536 ≤ 1114111; omega⟩
          · exact ⟨by show i + 0 ≤ s.size; omega, by show 0 ≤ 1114111; omega⟩
theorem decode_width_le (s : ByteArray) (j : Nat) (h : j < s.size) : j + (Utf8.decode s j).2 ≤ s.size ∧ (Utf8.decode s j).1 ≤ 1114111 := by
  rw [Lib.decode_at]
  have h1 := Lib.decodeN_width_le (s.size - j) (s.get! j).toNat (s.get! (j + 1)).toNat (s.get! (j + 2)).toNat (s.get! (j + 3)).toNat (by omega)
  have h2 := Lib.decodeN_valid (s.size - j) (s.get! j).toNat (s.get! (j + 1)).toNat (s.get! (j + 2)).toNat (s.get! (j + 3)).toNat (UInt8.toNat_lt _)
  omega
theorem letAt_le (s : ByteArray) (j : Nat) (hj : j ≤ s.size) : j + (letAt s j).2 ≤ s.size ∧ (letAt s j).1 ≤ 1114111 := by
  unfold letAt
  split
  · exact ⟨by show j + 0 ≤ s.size; omega, by show 0 ≤ 1114111; omega⟩
  · rename_i h0
    have hd := decode_width_le s j (by omega)
    split
    · exact escAt_le s j hj
    · split
      · exact ⟨by show j + 0 ≤ s.size; omega, hd.2⟩
      · exact hd

/-! ### in memory -/
theorem IsB.old {B b : Nat} {l : List UInt8} {W W' : World} (h : IsB B b l W) (hk : ∀ k, B ≤ k → W'.heap[k]? = W.heap[k]?) : IsB B b l W' := by
  have key : ∀ p, Lib.BuilderAtF 101 5 B b p (Lib.byteCells l) W → Lib.BuilderAtF 101 5 B b p (Lib.byteCells l) W' := by
    rintro p ⟨hB, v, hv, ⟨hl, hown⟩, hne⟩
    refine ⟨hB, v, (hk b hB).trans hv, ⟨hl, ?_⟩, hne⟩
    rcases hown with ho | ⟨g, cap, cur, fz, e1, hg, hcell, rest⟩
    · exact .inl ho
    · exact .inr ⟨g, cap, cur, fz, e1, hg, (hk g hg).trans hcell, rest⟩
  exact h.elim (fun x => .inl (key _ x)) (fun x => .inr (key _ x))
/-- A text under way: the reader, and a builder of the call's own; w: the call's first world. -/
structure TS (E : ErrV) (w0 : World) (s : ByteArray) (o r : Nat) (w : World) (j : Nat) (acc : List UInt8) (W : World) : Prop where
  rs : RS E w0 s j o r W
  isB : IsB w.heap.size w.heap.size acc W
  rd : Read r w W
  lt : r < w.heap.size
theorem TS.size {E : ErrV} {w0 : World} {s : ByteArray} {o r : Nat} {w : World} {j : Nat} {acc : List UInt8} {W : World} (h : TS E w0 s o r w j acc W) : w.heap.size ≤ W.heap.size := h.rd.size
theorem TS.below {E : ErrV} {w0 : World} {s : ByteArray} {o r : Nat} {w : World} {j : Nat} {acc : List UInt8} {W W' : World} (h : TS E w0 s o r w j acc W) (hb : Below W.heap.size W W') : TS E w0 s o r w j acc W' :=
  ⟨h.rs.below hb, h.isB.below hb, h.rd.trans (Read.of_below hb), h.lt⟩
theorem TS.write {E : ErrV} {w0 : World} {s : ByteArray} {o r : Nat} {w : World} {j : Nat} {acc acc' : List UInt8} {W W' : World} (h : TS E w0 s o r w j acc W) (hI : IsB w.heap.size w.heap.size acc' W') (hb : Below w.heap.size W W') : TS E w0 s o r w j acc' W' :=
  ⟨⟨(hb.block r h.lt).trans h.rs.rd, h.rs.le, h.rs.low.trans (hb.mono (by have := h.rs.le; have := h.lt; omega)), h.rs.errs, h.rs.facts, h.rs.size, h.rs.at_le⟩, hI, ⟨hb.os.trans h.rd.os, hb.tape.trans h.rd.tape, hb.output.trans h.rd.output, Nat.le_trans h.rd.size hb.size, fun k hk hne => (hb.block k hk).trans (h.rd.block k hk hne)⟩, h.lt⟩
theorem TS.at__ {E : ErrV} {w0 : World} {s : ByteArray} {o r : Nat} {w : World} {j : Nat} {acc : List UInt8} {W : World} (h : TS E w0 s o r w j acc W) (j' : Nat) (hj : j' ≤ s.size) : TS E w0 s o r w j' acc (W.setCell ⟨r, 1, none⟩ (.int .i64 j')) :=
  ⟨h.rs.read (h.rs.rd.at_ j') ((Read.refl r W).set_ 1 _) hj, h.isB.old (fun k hk => Below.heap_setCell _ _ _ _ (fun e => by have := h.lt; have : k = r := e; omega)), h.rd.trans ((Read.refl r W).set_ 1 _), h.lt⟩

theorem TS.round {E : ErrV} {w0 : World} {s : ByteArray} {o r : Nat} {w : World} {j j' : Nat} {acc acc' : List UInt8} {W W' : World} (h' : TS E w0 s o r w j' acc' W') (h : TS E w0 s o r w j acc W) (hj : j < j') : s.size - rdAt r W' < s.size - rdAt r W := by
  have := h'.rs.at_le
  rw [h'.rs.rd.at_eq, h.rs.rd.at_eq]
  omega
theorem letter_len (c : Nat) (acc : List UInt8) (j n : Nat) (h : acc.length ≤ 4 * j) (hn : 1 ≤ n) : (acc ++ Lib.encodeRune c).length ≤ 4 * (j + n) := by
  have hl4 := Lib.runeCells_le (c : Int)
  rw [Lib.runeCells_length] at hl4
  rw [List.length_append]
  omega
/-- What text gives. -/
def TextGives (E : ErrV) (w0 : World) (s : ByteArray) (o r : Nat) (w : World) : PR (List UInt8) → Ending → World → Prop
  | .ok l j, e, w' => e = .returned (.tuple #[.string ⟨l.toArray⟩, .nilIface]) ∧ RS E w0 s j o r w' ∧ Read r w w'
  | .no j k, e, w' => ∃ v, e = .returned (.tuple #[.string ⟨#[]⟩, v]) ∧ IsFault v j (ev (E.at_ k)) w' ∧ RS E w0 s j o r w' ∧ Read r w w'

theorem TS.fault {E : ErrV} {w0 : World} {s : ByteArray} {i o r k : Nat} {w : World} {j : Nat} {acc : List UInt8} {W W' : World} (h : TS E w0 s o r w j acc W) (hb : Below W.heap.size W W') (hk : W'.heap[k]? = some (.cells #[.int .i64 j, .string ⟨#[]⟩, .iface 228 (.pointer (some E.text))] 98 (0, 0))) {m : Nat} (htx : textF s m j acc = textAt s i) (hst : textF s m j acc = .no j .text) :
    TextGives E w0 s o r w (textAt s i) (.returned (.tuple #[.string ⟨#[]⟩, .iface 94 (.pointer (some ⟨k, 0, none⟩))])) W' := by
  rw [← htx, hst]
  exact ⟨_, rfl, ⟨k, rfl, hk⟩, (h.below hb).rs, (h.below hb).rd⟩

set_option maxRecDepth 100000 in
set_option maxHeartbeats 4000000 in
theorem text_any {E : ErrV} {w0 : World} {s : ByteArray} {i o r : Nat} {w : World} (h : RS E w0 s i o r w) (T : TypeId) (p : Value) (hv : w0.cell? ⟨14, 0, none⟩ = some (.iface T p)) (hi : i < s.size) :
    Calls Tryz.prog 86 #[.pointer (some ⟨r, 0, none⟩)] w fun e w' => TextGives E w0 s o r w (textAt s i) e w' := by
  have hc := cellAll h.rd
  have hf := frozenAll h.rd
  have hsz := h.size
  have hrl := h.rd.lt
  have hT0 : TS E w0 s o r w (i + 1) [] ((w.setCell ⟨r, 1, none⟩ (.int .i64 ((i : Int) + 1))).alloc (.cells #[.pointer none, .slice none 0 0] 101)) := by
    have e1 : (((i + 1 : Nat) : Int)) = (i : Int) + 1 := by omega
    have hR : RS E w0 s (i + 1) o r (w.setCell ⟨r, 1, none⟩ (.int .i64 ((i : Int) + 1))) := by
      rw [← e1]
      exact h.read (h.rd.at_ (i + 1)) ((Read.refl r w).set_ 1 _) (by omega)
    have hI := IsB.fresh (w.setCell ⟨r, 1, none⟩ (.int .i64 ((i : Int) + 1)))
    have hsz1 : (w.setCell ⟨r, 1, none⟩ (.int .i64 ((i : Int) + 1))).heap.size = w.heap.size := by simp
    have hb := (Below.refl _ (w.setCell ⟨r, 1, none⟩ (.int .i64 ((i : Int) + 1)))).alloc (Nat.le_refl _) (.cells #[.pointer none, .slice none 0 0] 101)
    refine ⟨hR.below hb, by rw [hsz1] at hI; exact hI, ((Read.refl r w).set_ 1 _).trans (Read.of_below hb), hrl⟩
  go_enter Tryz.func86, Tryz.ntmps86
  go_wp2_with fail
  go_loopw [] (fun wr => ∃ j n acc, TS E w0 s o r w j acc wr ∧ Aside0 (textF s n j acc = textAt s i) ∧ s.size + 1 ≤ j + n ∧ acc.length ≤ 4 * j) (fun wr => s.size - rdAt r wr)
  case atStart => exact ⟨i + 1, s.size + 1, [], hT0, ⟨rfl⟩, by omega, by simp⟩
  case round =>
    obtain ⟨j, n, acc, hT, htx, hjn, hal⟩ := hrel
    have hjs := hT.rs.at_le
    obtain ⟨m, rfl⟩ : ∃ m, n = m + 1 := ⟨n - 1, by omega⟩
    have hstep : textF s (m + 1) j acc = if byteAt s j = 34 then .ok acc (j + 1) else if (letAt s j).2 = 0 then .no j .text else textF s m (j + (letAt s j).2) (acc ++ Lib.encodeRune (letAt s j).1) := rfl
    have cN := next_s hT.rs
    have hbl := byteAt_lt s j
    by_cases c34 : byteAt s j = 34
    · rw [if_pos c34] at hstep
      have hjl : j < s.size := by
        apply Decidable.byContradiction
        intro hn
        unfold byteAt at c34
        rw [dif_neg hn] at c34
        omega
      replace hstep := Aside0.mk hstep
      have b1 : ((byteAt s j : Int) == 34) = true := by simp; omega
      have b2 : ((byteAt s j : Int) != 34) = false := by simp; omega
      go_wp2_with (first
        | (go_at_call 65; refine (string_k w.heap.size w.heap.size acc _ hT2.out.isB hT2.out.size).mono ?_; rintro e w2 ⟨rfl, hI2, hb2, _⟩)
        | (go_at_call 81; refine cN.mono ?_; rintro e w1 ⟨rfl, hR1, hb1⟩; have hT1 := hT.below hb1; have hc1 := cellAll hT1.rs.rd; have hf1 := frozenAll hT1.rs.rd; have hT2 := Aside0.mk (hT1.at__ (j + 1) (by omega)); rw [show (((j + 1 : Nat) : Int)) = (j : Int) + 1 by omega] at hT2))
      go_ret2
      rw [← htx.out, hstep.out]
      exact ⟨rfl, (hT2.out.write hI2 hb2).rs, (hT2.out.write hI2 hb2).rd⟩
    rw [if_neg c34] at hstep
    have b1 : ((byteAt s j : Int) == 34) = false := by simp; omega
    have b2 : ((byteAt s j : Int) != 34) = true := by simp; omega
    have hle := letAt_le s j hjs
    by_cases c0 : j = s.size ∨ byteAt s j < 32
    · have hl : letAt s j = (0, 0) := by unfold letAt; rw [if_pos c0]
      rw [hl, if_pos rfl] at hstep
      replace hstep := Aside0.mk hstep
      clear hl hle
      by_cases c1 : j = s.size
      · have b3 : ((j : Int) == (s.size : Int)) = true := by simp; omega
        clear c0
        replace c1 := Aside0.mk c1
        go_wp2_with (first
          | (go_at_call 81; refine (next_s hT1.rs).mono ?_; rintro e w2 ⟨rfl, hR2, hb2⟩; have hT2 := hT1.below hb2; have hc2 := cellAll hT2.rs.rd)
          | (go_at_call 81; refine cN.mono ?_; rintro e w1 ⟨rfl, hR1, hb1⟩; have hT1 := hT.below hb1))
        go_quiet (fail)
        have hB3 := pw_below_drewN (Below.refl w2.heap.size w2) nq
        have hT3 := hT2.below hB3
        have hc3 := cellAll hT3.rs.rd
        have hd3 := hT3.rs.er.text_cell
        generalize w2.drewN nq = w3 at *
        clear nq
        go_wp2_with fail
        go_region_with (go_at_call 56; refine (fail_any _ _ _ _).mono ?_; rintro e w4 ⟨v, rfl, ⟨k, rfl, hk⟩, hb4⟩; replace hk := Aside0.mk hk)
        all_goals (go_wp2_with fail)
        all_goals (have hb5 : Below w3.heap.size w3 w4 := ⟨hb4.os, hb4.tape, hb4.output, hb4.size, hb4.block⟩)
        all_goals exact bodyPost_ret (v := .tuple #[.string ⟨#[]⟩, .iface 94 (.pointer (some ⟨k, 0, none⟩))]) (by simp [results, Tryz.results86, Act.put, go_sem]) rfl (hT3.fault hb5 hk.out htx.out hstep.out)
      · have b3 : ((j : Int) == (s.size : Int)) = false := by simp; omega
        have b4 : (byteAt s j : Int) < 32 := by omega
        clear c0
        go_wp2_with (first
          | (go_at_call 81; refine (next_s hT1.rs).mono ?_; rintro e w2 ⟨rfl, hR2, hb2⟩; have hT2 := hT1.below hb2; have hc2 := cellAll hT2.rs.rd)
          | (go_at_call 81; refine cN.mono ?_; rintro e w1 ⟨rfl, hR1, hb1⟩; have hT1 := hT.below hb1))
        go_quiet (fail)
        have hB3 := pw_below_drewN (Below.refl w2.heap.size w2) nq
        have hT3 := hT2.below hB3
        have hc3 := cellAll hT3.rs.rd
        have hd3 := hT3.rs.er.text_cell
        generalize w2.drewN nq = w3 at *
        clear nq
        go_wp2_with fail
        go_region_with (go_at_call 56; refine (fail_any _ _ _ _).mono ?_; rintro e w4 ⟨v, rfl, ⟨k, rfl, hk⟩, hb4⟩; replace hk := Aside0.mk hk)
        all_goals (go_wp2_with fail)
        all_goals (have hb5 : Below w3.heap.size w3 w4 := ⟨hb4.os, hb4.tape, hb4.output, hb4.size, hb4.block⟩)
        all_goals exact bodyPost_ret (v := .tuple #[.string ⟨#[]⟩, .iface 94 (.pointer (some ⟨k, 0, none⟩))]) (by simp [results, Tryz.results86, Act.put, go_sem]) rfl (hT3.fault hb5 hk.out htx.out hstep.out)
    have hjl : j < s.size := by omega
    have b3 : ((j : Int) == (s.size : Int)) = false := by simp; omega
    have b4 : ¬ (byteAt s j : Int) < 32 := by omega
    by_cases c92 : byteAt s j = 92
    · have b5 : ((byteAt s j : Int) == 92) = true := by simp; omega
      have hl : letAt s j = escAt s j := by unfold letAt; rw [if_neg c0, if_pos c92]
      have cE := fun (W : World) (hW : RS E w0 s j o r W) => escape_any anyOK hW T p hv
      rw [hl] at hstep hle
      generalize escAt s j = cn at *
      obtain ⟨c, n⟩ := cn
      simp only at hstep hle cE
      clear c0 hl
      by_cases hn : n = 0
      · subst hn
        rw [if_pos rfl] at hstep
        replace hstep := Aside0.mk hstep
        go_wp2_with (first
          | (go_at_call 81; refine (next_s hT1.rs).mono ?_; rintro e w2 ⟨rfl, hR2, hb2⟩; have hT2 := hT1.below hb2; have hc2 := cellAll hT2.rs.rd)
          | (go_at_call 81; refine cN.mono ?_; rintro e w1 ⟨rfl, hR1, hb1⟩; have hT1 := hT.below hb1))
        go_quiet (fail)
        have hB3 := pw_below_drewN (Below.refl w2.heap.size w2) nq
        have hT3 := hT2.below hB3
        have hc3 := cellAll hT3.rs.rd
        have hd3 := hT3.rs.er.text_cell
        generalize w2.drewN nq = w3 at *
        clear nq
        go_wp2_with (go_at_call 110; refine (cE _ hT3.rs).mono ?_; rintro e w4 ⟨rfl, hR4, hb4⟩; have hT4 := hT3.below hb4; have hc4 := cellAll hT4.rs.rd; have hd4 := hT4.rs.er.text_cell)
        go_region_with (go_at_call 56; refine (fail_any _ _ _ _).mono ?_; rintro e w9 ⟨v, rfl, ⟨k, rfl, hk⟩, hb9⟩; replace hk := Aside0.mk hk)
        all_goals (go_wp2_with fail)
        all_goals (have hb10 : Below w4.heap.size w4 w9 := ⟨hb9.os, hb9.tape, hb9.output, hb9.size, hb9.block⟩)
        all_goals exact bodyPost_ret (v := .tuple #[.string ⟨#[]⟩, .iface 94 (.pointer (some ⟨k, 0, none⟩))]) (by simp [results, Tryz.results86, Act.put, go_sem]) rfl (hT4.fault hb10 hk.out htx.out hstep.out)
      · rw [if_neg hn] at hstep
        replace hstep := Aside0.mk hstep
        have b6 : ((n : Int) == 0) = false := by simp; omega
        go_wp2_with (first
          | (go_at_call 81; refine (next_s hT1.rs).mono ?_; rintro e w2 ⟨rfl, hR2, hb2⟩; have hT2 := hT1.below hb2; have hc2 := cellAll hT2.rs.rd)
          | (go_at_call 81; refine cN.mono ?_; rintro e w1 ⟨rfl, hR1, hb1⟩; have hT1 := hT.below hb1))
        go_quiet (fail)
        have hB3 := pw_below_drewN (Below.refl w2.heap.size w2) nq
        have hT3 := hT2.below hB3
        have hc3 := cellAll hT3.rs.rd
        have hd3 := hT3.rs.er.text_cell
        generalize w2.drewN nq = w3 at *
        clear nq
        go_wp2_with (first
          | (go_at_call 110; refine (cE _ hT3.rs).mono ?_; rintro e w4 ⟨rfl, hR4, hb4⟩; have hT4 := hT3.below hb4)
          | (go_at_call 68; refine (writeRune_k w.heap.size w.heap.size acc c (by omega) (by omega) _ hT4.isB (by omega) hT4.size).mono ?_; rintro e w5 ⟨rfl, hI5, hb5, _⟩; have hT5 := hT4.write hI5 hb5; have hc5 := cellAll hT5.rs.rd; have hf5 := frozenAll hT5.rs.rd))
        go_roundw
        case rel =>
          have hT6 := hT5.at__ (j + n) (by omega)
          rw [show (((j + n : Nat) : Int)) = (j : Int) + (n : Int) by omega] at hT6
          refine ⟨j + n, m, _, hT6, ⟨by rw [← hstep.out]; exact htx.out⟩, by omega, ?_⟩
          have hl4 := Lib.runeCells_le (c : Int)
          rw [Lib.runeCells_length] at hl4
          rw [List.length_append]
          omega
        case measure =>
          have hT6 := hT5.at__ (j + n) (by omega)
          rw [show (((j + n : Nat) : Int)) = (j : Int) + (n : Int) by omega] at hT6
          rw [hT6.rs.rd.at_eq, hT.rs.rd.at_eq]
          omega
    · have b5 : ((byteAt s j : Int) == 92) = false := by simp; omega
      have hd := decode_width_le s j hjl
      have hwp := width_pos s j hjl
      have cD := fun (W : World) (hW : RS E w0 s j o r W) => Tryz.utf8_DecodeRuneInString (s.extract j s.size) W hW.fct.tabs
      rw [Lib.decodeGo_extract s j hjl] at cD
      have hl : letAt s j = if (Utf8.decode s j).1 = 65533 ∧ (Utf8.decode s j).2 = 1 then ((Utf8.decode s j).1, 0) else Utf8.decode s j := by unfold letAt; rw [if_neg c0, if_neg c92]
      rw [hl] at hstep hle
      clear c0 hl hle
      generalize Utf8.decode s j = cn at *
      obtain ⟨c, n⟩ := cn
      simp only at hstep hd hwp cD
      by_cases hn : c = 65533 ∧ n = 1
      · obtain ⟨rfl, rfl⟩ := hn
        replace hstep : textF s (m + 1) j acc = .no j .text := by simpa using hstep
        replace hstep := Aside0.mk hstep
        clear hwp
        go_wp2_with (first
          | (go_at_call 81; refine (next_s hT1.rs).mono ?_; rintro e w2 ⟨rfl, hR2, hb2⟩; have hT2 := hT1.below hb2; have hc2 := cellAll hT2.rs.rd)
          | (go_at_call 81; refine cN.mono ?_; rintro e w1 ⟨rfl, hR1, hb1⟩; have hT1 := hT.below hb1))
        go_quiet (fail)
        have hB3 := pw_below_drewN (Below.refl w2.heap.size w2) nq
        have hT3 := hT2.below hB3
        have hc3 := cellAll hT3.rs.rd
        have hd3 := hT3.rs.er.text_cell
        generalize w2.drewN nq = w3 at *
        clear nq
        go_wp2_with fail
        have hT3d := hT3.below ((Below.refl w3.heap.size w3).drew)
        go_region_with (go_at_call 111; refine (cD _ hT3d.rs).mono ?_; rintro e w4 ⟨rfl, hb4⟩; have hT4 := hT3d.below hb4; have hc4 := cellAll hT4.rs.rd; have hd4 := hT4.rs.er.text_cell)
        all_goals (go_wp2_with fail)
        all_goals (go_region_with (go_at_call 56; refine (fail_any _ _ _ _).mono ?_; rintro e w9 ⟨v, rfl, ⟨k, rfl, hk⟩, hb9⟩; replace hk := Aside0.mk hk))
        all_goals (go_wp2_with fail)
        all_goals (have hb10 : Below w4.heap.size w4 w9 := ⟨hb9.os, hb9.tape, hb9.output, hb9.size, hb9.block⟩)
        all_goals exact bodyPost_ret (v := .tuple #[.string ⟨#[]⟩, .iface 94 (.pointer (some ⟨k, 0, none⟩))]) (by simp [results, Tryz.results86, Act.put, go_sem]) rfl (hT4.fault hb10 hk.out htx.out hstep.out)
      · have hst : textF s (m + 1) j acc = textF s m (j + n) (acc ++ Lib.encodeRune c) := by
          rw [if_neg hn] at hstep
          simp only at hstep
          rw [if_neg (by omega)] at hstep
          exact hstep
        clear hstep
        have hstep := Aside0.mk hst
        clear hst
        have b6 : ((n : Int) == 0) = false := by simp; omega
        by_cases hc6 : c = 65533
        · have b7 : ((c : Int) == 65533) = true := by simp; omega
          have b8 : ((n : Int) == 1) = false := by simp; omega
          replace hn := Aside0.mk hn
          replace hc6 := Aside0.mk hc6
          go_wp2_with (first
            | (go_at_call 81; refine (next_s hT1.rs).mono ?_; rintro e w2 ⟨rfl, hR2, hb2⟩; have hT2 := hT1.below hb2; have hc2 := cellAll hT2.rs.rd)
            | (go_at_call 81; refine cN.mono ?_; rintro e w1 ⟨rfl, hR1, hb1⟩; have hT1 := hT.below hb1))
          go_quiet (fail)
          have hB3 := pw_below_drewN (Below.refl w2.heap.size w2) nq
          have hT3 := hT2.below hB3
          have hc3 := cellAll hT3.rs.rd
          have hd3 := hT3.rs.er.text_cell
          generalize w2.drewN nq = w3 at *
          clear nq
          go_wp2_with fail
          have hT3d := hT3.below ((Below.refl w3.heap.size w3).drew)
          go_region_with (go_at_call 111; refine (cD _ hT3d.rs).mono ?_; rintro e w4 ⟨rfl, hb4⟩; have hT4 := hT3d.below hb4; have hc4 := cellAll hT4.rs.rd; have hd4 := hT4.rs.er.text_cell)
          all_goals (go_wp2_with (go_at_call 68; refine (writeRune_k w.heap.size w.heap.size acc c (by omega) (by omega) _ hT4.isB (by omega) hT4.size).mono ?_; rintro e w5 ⟨rfl, hI5, hb5, _⟩; have hT5 := hT4.write hI5 hb5; have hc5 := cellAll hT5.rs.rd; have hf5 := frozenAll hT5.rs.rd))
          all_goals go_roundw
          all_goals (have hT6 := hT5.at__ (j + n) (by omega); rw [show (((j + n : Nat) : Int)) = (j : Int) + (n : Int) by omega] at hT6)
          all_goals (first
            | exact hT6.round hT (by omega)
            | exact ⟨j + n, m, _, hT6, ⟨by rw [← hstep.out]; exact htx.out⟩, by omega, letter_len c acc j n hal (by omega)⟩)
        · have b7 : ((c : Int) == 65533) = false := by simp; omega
          replace hn := Aside0.mk hn
          replace hc6 := Aside0.mk hc6
          go_wp2_with (first
            | (go_at_call 81; refine (next_s hT1.rs).mono ?_; rintro e w2 ⟨rfl, hR2, hb2⟩; have hT2 := hT1.below hb2; have hc2 := cellAll hT2.rs.rd)
            | (go_at_call 81; refine cN.mono ?_; rintro e w1 ⟨rfl, hR1, hb1⟩; have hT1 := hT.below hb1))
          go_quiet (fail)
          have hB3 := pw_below_drewN (Below.refl w2.heap.size w2) nq
          have hT3 := hT2.below hB3
          have hc3 := cellAll hT3.rs.rd
          have hd3 := hT3.rs.er.text_cell
          generalize w2.drewN nq = w3 at *
          clear nq
          go_wp2_with fail
          have hT3d := hT3.below ((Below.refl w3.heap.size w3).drew)
          go_region_with (go_at_call 111; refine (cD _ hT3d.rs).mono ?_; rintro e w4 ⟨rfl, hb4⟩; have hT4 := hT3d.below hb4; have hc4 := cellAll hT4.rs.rd; have hd4 := hT4.rs.er.text_cell)
          all_goals (go_wp2_with (go_at_call 68; refine (writeRune_k w.heap.size w.heap.size acc c (by omega) (by omega) _ hT4.isB (by omega) hT4.size).mono ?_; rintro e w5 ⟨rfl, hI5, hb5, _⟩; have hT5 := hT4.write hI5 hb5; have hc5 := cellAll hT5.rs.rd; have hf5 := frozenAll hT5.rs.rd))
          all_goals go_roundw
          all_goals (have hT6 := hT5.at__ (j + n) (by omega); rw [show (((j + n : Nat) : Int)) = (j : Int) + (n : Int) by omega] at hT6)
          all_goals (first
            | exact hT6.round hT (by omega)
            | exact ⟨j + n, m, _, hT6, ⟨by rw [← hstep.out]; exact htx.out⟩, by omega, letter_len c acc j n hal (by omega)⟩)
end Go.Proofs.YtkdeleafgailhaaGreatDoor
end
