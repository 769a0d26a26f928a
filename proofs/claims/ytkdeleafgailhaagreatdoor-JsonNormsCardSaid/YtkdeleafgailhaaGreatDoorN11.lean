/- json's reader: its state in memory; what gap and next do. json's reader: faults; due. errors.As at a *api.Fault: the entries of internal/reflectlite that it calls. errors.As at a *api.Fault. errors.As at a *api.Fault. A scope in which the run jumps to several labels: what holds at each jump, and a measure that each pass from a label lowers. dec.numeral: plain; its states. -/
import Derived.Test.YtkdeleafgailhaaGreatDoorN10
import Derived.BigQuiet
import Derived.Deep.QuietTactic
import Derived.Deep.RegionWith
import Derived.Lib.ReflectliteSlice
import Derived.Test.YtkdeleafgailhaaGreatDoorProg
import Derived.ScopeJumps
import Derived.WalkMore
section
set_option linter.unusedVariables false
set_option linter.unusedSimpArgs false
namespace Go.Proofs.YtkdeleafgailhaaGreatDoor
open Go Go.RowKit Go.Proofs.YtkdeleafgailhaaGreatDoorW.PrintWords

/-! ### plain -/
/-- The byte at a place; 0: there is none. -/
def byteAt (s : ByteArray) (i : Nat) : Nat := if h : i < s.size then (s[i]'h).toNat else 0
def isGap (c : Nat) : Bool := c == 32 || c == 9 || c == 10 || c == 13
/-- Where the blanks from i on end. -/
def gapTo (s : ByteArray) (i : Nat) : Nat := if i < s.size ∧ isGap (byteAt s i) = true then gapTo s (i + 1) else i
termination_by s.size - i
theorem gapTo_le (s : ByteArray) (i : Nat) : i ≤ gapTo s i := by
  unfold gapTo
  split
  · have := gapTo_le s (i + 1); omega
  · omega
termination_by s.size - i
theorem gapTo_size (s : ByteArray) (i : Nat) (h : i ≤ s.size) : gapTo s i ≤ s.size := by
  unfold gapTo
  split
  · exact gapTo_size s (i + 1) (by omega)
  · exact h
termination_by s.size - i
theorem byteAt_lt (s : ByteArray) (i : Nat) : byteAt s i < 256 := by
  unfold byteAt
  split
  · exact UInt8.toNat_lt _
  · omega
set_option maxRecDepth 100000 in
theorem gap_index (u : UInt8) : (decide (0 ≤ Lib.indexByte [32, 9, 10, 13] u)) = isGap u.toNat := by
  have key : ∀ n : Fin 256, (decide (0 ≤ Lib.indexByte [32, 9, 10, 13] (UInt8.ofNat n.val))) = isGap n.val := by decide
  have := key ⟨u.toNat, u.toNat_lt⟩
  simpa using this

/-! ### in memory -/
theorem drewN_two (w : World) (n m : Nat) : (w.drewN n).drewN m = w.drewN (n + m) := World.drewN_drewN ..
/-- The reader's block. -/
def Rd (s : ByteArray) (i o : Nat) (r : Nat) (w : World) : Prop := w.heap[r]? = some (.cells #[.string s, .int .i64 i, .int .i64 o] 92 (0, 0))
theorem Rd.lt {s : ByteArray} {i o r : Nat} {w : World} (h : Rd s i o r w) : r < w.heap.size := (Array.getElem?_eq_some_iff.1 h).1
theorem Rd.below {s : ByteArray} {i o r : Nat} {w w' : World} (h : Rd s i o r w) (hb : Below w.heap.size w w') : Rd s i o r w' := (hb.block r h.lt).trans h

set_option maxRecDepth 100000 in
set_option maxHeartbeats 4000000 in
theorem next_any (s : ByteArray) (i o r : Nat) (w : World) (h : Rd s i o r w) (hs : s.size ≤ 4294967296) (hi : i ≤ 4294967296) :
    Calls Tryz.prog 81 #[.pointer (some ⟨r, 0, none⟩)] w fun e w' => e = .returned (.int .u8 (byteAt s i)) ∧ ∃ n, w' = w.drewN n := by
  have hc := cellAll h
  by_cases hl : i < s.size
  · have hbt : (byteAt s i : Int) = ((s[i]'hl).toNat : Int) := by unfold byteAt; rw [dif_pos hl]
    rw [hbt]
    have hl2 : (i : Int) < (s.size : Int) := by omega
    go_enter Tryz.func81, Tryz.ntmps81
    go_wp2_with fail
    go_quiet (fail)
    go_wp2_with fail
    go_quiet (fail)
    go_wp2_with fail
    go_ret
    exact ⟨rfl, _, drewN_two _ _ _⟩
  · have hbt : byteAt s i = 0 := by unfold byteAt; rw [dif_neg hl]
    rw [hbt]
    go_enter Tryz.func81, Tryz.ntmps81
    go_wp2_with fail
    go_quiet (fail)
    go_wp2_with fail
    go_ret
    exact ⟨rfl, _, rfl⟩

/-- Only the reader's block has been written, and blocks made. -/
def Read (r : Nat) (w w' : World) : Prop := w.grownBy w' (some r)
theorem Rd.drewN {s : ByteArray} {i o r : Nat} {w : World} (h : Rd s i o r w) (n : Nat) : Rd s i o r (w.drewN n) := h
theorem Rd.at_ {s : ByteArray} {i o r : Nat} {w : World} (h : Rd s i o r w) (i' : Nat) : Rd s i' o r (w.setCell ⟨r, 1, none⟩ (.int .i64 i')) := blk_set h 1 (.int .i64 i')
theorem Rd.open_ {s : ByteArray} {i o r : Nat} {w : World} (h : Rd s i o r w) (o' : Nat) : Rd s i o' r (w.setCell ⟨r, 2, none⟩ (.int .i64 o')) := blk_set h 2 (.int .i64 o')
theorem Read.trans {r : Nat} {a b c : World} (h : Read r a b) (k : Read r b c) : Read r a c :=
  ⟨k.os.trans h.os, k.tape.trans h.tape, k.output.trans h.output, Nat.le_trans h.size k.size, fun i hi hr => (k.block i (Nat.lt_of_lt_of_le hi h.size) hr).trans (h.block i hi hr)⟩
theorem Read.drewN {r : Nat} {a b : World} (h : Read r a b) (n : Nat) : Read r a (b.drewN n) := ⟨h.os, h.tape, h.output, h.size, h.block⟩
theorem Read.of_below {r : Nat} {a b : World} (h : Below a.heap.size a b) : Read r a b := ⟨h.os, h.tape, h.output, h.size, fun i hi _ => h.block i hi⟩
theorem Read.set_ {r : Nat} {a b : World} (h : Read r a b) (j : Nat) (v : Value) : Read r a (b.setCell ⟨r, j, none⟩ v) := by
  have hk : KeepBut a (b.setCell ⟨r, j, none⟩ v) r none := KeepBut.set_ ⟨h.size, fun i hi hne _ => h.block i hi (by intro e; injection e with e; exact hne e)⟩ j v
  have hb : Below 0 b (b.setCell ⟨r, j, none⟩ v) := (Below.refl 0 b).setCell (Nat.zero_le _) _
  exact ⟨hb.os.trans h.os, hb.tape.trans h.tape, hb.output.trans h.output, hk.1, fun i hi hne => hk.2 i hi (by rintro rfl; exact hne rfl) (by simp)⟩
theorem Read.refl (r : Nat) (w : World) : Read r w w := ⟨rfl, rfl, rfl, Nat.le_refl _, fun _ _ _ => rfl⟩

def rdAt (r : Nat) (w : World) : Nat := match w.cell? ⟨r, 1, none⟩ with | some v => (intOf v).toNat | none => 0
theorem Rd.at_eq {s : ByteArray} {i o r : Nat} {w : World} (h : Rd s i o r w) : rdAt r w = i := by
  unfold rdAt
  rw [cellAll h 1]
  simp [intOf]

set_option maxRecDepth 100000 in
set_option maxHeartbeats 4000000 in
theorem gap_any (s : ByteArray) (i o r : Nat) (w : World) (h : Rd s i o r w) (hs : s.size ≤ 4294967296) (hi : i ≤ s.size) :
    Calls Tryz.prog 57 #[.pointer (some ⟨r, 0, none⟩)] w fun e w' => e = .returned (.tuple #[]) ∧ Rd s (gapTo s i) o r w' ∧ Read r w w' := by
  go_enter Tryz.func57, Tryz.ntmps57
  go_wp2_with fail
  go_loopw [] (fun wr => ∃ j, Rd s j o r wr ∧ Read r w wr ∧ j ≤ s.size ∧ Aside0 (gapTo s j = gapTo s i)) (fun wr => s.size - rdAt r wr)
  case atStart => exact ⟨i, h, Read.refl _ _, hi, ⟨rfl⟩⟩
  case round =>
    obtain ⟨j, hR, hW, hj, hg⟩ := hrel
    have hc := cellAll hR
    have hf := frozenAll hR
    by_cases hl : j < s.size
    · have hl2 : (j : Int) < (s.size : Int) := by omega
      have hbt : (s[j]'hl).toNat = byteAt s j := by unfold byteAt; rw [dif_pos hl]
      have hgi := gap_index (s[j]'hl)
      have hIB := fun W => Tryz.strings_IndexByte ⟨#[32, 9, 10, 13]⟩ ((s[j]'hl).toNat : Int) W
      have hub : (((s[j]'hl).toNat : Int).toNat).toUInt8 = s[j]'hl := by simp
      rw [hub] at hIB
      have hlist : (⟨#[32, 9, 10, 13]⟩ : ByteArray).data.toList = [32, 9, 10, 13] := rfl
      rw [hlist] at hIB
      generalize Lib.indexByte [32, 9, 10, 13] (s[j]'hl) = q at hgi hIB
      rw [hbt] at hgi
      have hIQ : ∀ W, Calls Tryz.prog 80 #[.string ⟨#[32, 9, 10, 13]⟩, .int .u8 ((s[j]'hl).toNat : Int)] W fun e w' => e = .returned (.int .i64 q) ∧ ∃ n, w' = W.drewN n := fun W => (hIB W).mono (fun e w' h => ⟨h.1, 0, h.2⟩)
      clear hIB
      have hstep : gapTo s j = if isGap (byteAt s j) = true then gapTo s (j + 1) else j := by
        rw [gapTo]
        by_cases hb : isGap (byteAt s j) = true
        · rw [if_pos ⟨hl, hb⟩, if_pos hb]
        · rw [if_neg (fun h => hb h.2), if_neg hb]
      cases hb : isGap (byteAt s j) with
      | true =>
        rw [hb] at hgi
        rw [hb, if_pos rfl] at hstep
        have hq : 0 ≤ q := of_decide_eq_true hgi
        replace hstep := Aside0.mk hstep
        replace hb := Aside0.mk hb
        clear hub hbt hlist
        go_wp2_with fail
        go_quiet ((go_at_call 80; exact Calls.quiet_of (hIQ _)))
        go_wp2_with fail
        have hR2 := (hR.drewN nq).at_ (j + 1)
        have e1 : (((j + 1 : Nat) : Int)) = (j : Int) + 1 := by omega
        rw [e1] at hR2
        refine ⟨⟨j + 1, hR2, (hW.drewN nq).set_ 1 _, by omega, ⟨?_⟩⟩, ?_⟩
        · rw [← hstep.out]; exact hg.out
        · rw [hR2.at_eq, hR.at_eq]; omega
      | false =>
        rw [hb] at hgi
        rw [hb, if_neg (by simp)] at hstep
        have hq : ¬ 0 ≤ q := of_decide_eq_false hgi
        replace hstep := Aside0.mk hstep
        replace hb := Aside0.mk hb
        clear hub hbt hlist
        go_wp2_with fail
        go_quiet ((go_at_call 80; exact Calls.quiet_of (hIQ _)))
        go_wp2_with fail
        go_end0
        refine ⟨rfl, ?_, hW.drewN _⟩
        rw [← hg.out, hstep.out]
        exact hR
    · have hstep : gapTo s j = j := by rw [gapTo, if_neg (fun h => hl h.1)]
      replace hstep := Aside0.mk hstep
      have hl2 : decide ((j : Int) < (s.size : Int)) = false := by simpa using hl
      have hl3 : (s.size : Int) ≤ (j : Int) := by omega
      go_wp2_with fail
      go_quiet (fail)
      go_wp2_with fail
      go_end0
      refine ⟨rfl, ?_, hW.drewN _⟩
      rw [← hg.out, hstep.out]
      exact hR
end Go.Proofs.YtkdeleafgailhaaGreatDoor
end
section
set_option linter.unusedVariables false
set_option linter.unusedSimpArgs false
namespace Go.Proofs.YtkdeleafgailhaaGreatDoor
open Go Go.RowKit Go.Proofs.YtkdeleafgailhaaGreatDoorW.PrintWords

/-- e is a *api.Fault of this place and error, of no path. -/
def IsFault (e : Value) (at_ : Int) (err : Value) (w : World) : Prop := ∃ k, e = .iface 94 (.pointer (some ⟨k, 0, none⟩)) ∧ w.heap[k]? = some (.cells #[.int .i64 at_, .string ⟨#[]⟩, err] 98 (0, 0))
theorem IsFault.below {e : Value} {at_ : Int} {err : Value} {w w' : World} (h : IsFault e at_ err w) (hb : Below w.heap.size w w') : IsFault e at_ err w' := by
  obtain ⟨k, he, hk⟩ := h
  exact ⟨k, he, (hb.block k (Array.getElem?_eq_some_iff.1 hk).1).trans hk⟩

set_option maxRecDepth 100000 in
set_option maxHeartbeats 4000000 in
theorem fail_any (at_ : Int) (tt : TypeId) (p : Value) (w : World) :
    Calls Tryz.prog 56 #[.int .i64 at_, .iface tt p] w fun e w' => ∃ v, e = .returned v ∧ IsFault v at_ (.iface tt p) w' ∧ Below w.heap.size w w' := by
  go_enter Tryz.func56, Tryz.ntmps56
  go_wp2_with fail
  go_ret
  exact ⟨_, rfl, ⟨_, rfl, heap_alloc_new w _⟩, (Below.refl _ w).alloc (Nat.le_refl _) _⟩


/-! ### the errors' variables -/
structure ErrV where
  (due long deep twice text number exponent : Addr)
def ev (a : Addr) : Value := .iface 228 (.pointer (some a))
/-- What each of the package's error variables holds. -/
structure Errs (E : ErrV) (w : World) : Prop where
  due : w.var? Tryz.prog "voyage/api.ErrDue" = some #[ev E.due]
  long : w.var? Tryz.prog "voyage/api.ErrLong" = some #[ev E.long]
  deep : w.var? Tryz.prog "voyage/api.ErrDeep" = some #[ev E.deep]
  twice : w.var? Tryz.prog "voyage/api.ErrTwice" = some #[ev E.twice]
  text : w.var? Tryz.prog "voyage/api.ErrText" = some #[ev E.text]
  number : w.var? Tryz.prog "voyage/api.ErrNumber" = some #[ev E.number]
  exponent : w.var? Tryz.prog "voyage/api.ErrExponent" = some #[ev E.exponent]
theorem var_block {w : World} {n : String} {g : Nat} {v : Value} (hg : Tryz.prog.globalNamed n = some g) (h : w.var? Tryz.prog n = some #[v]) : g < w.heap.size ∧ w.cell? ⟨g, 0, none⟩ = some v := by
  have hc := World.var?_cell hg h 0
  refine ⟨?_, by simpa using hc⟩
  unfold World.var? at h
  rw [hg] at h
  simp only [Option.bind_some] at h
  rcases hh : w.heap[g]? with _ | o
  · rw [hh] at h; cases h
  · exact (Array.getElem?_eq_some_iff.1 hh).1
theorem var_keep {w w' : World} {n : String} {g : Nat} {v : Value} (hg : Tryz.prog.globalNamed n = some g) (h : w.var? Tryz.prog n = some #[v]) (hb : w'.heap[g]? = w.heap[g]?) : w'.var? Tryz.prog n = some #[v] := by
  unfold World.var? at h ⊢
  rw [hg] at h ⊢
  simp only [Option.bind_some] at h ⊢
  rw [hb]
  exact h
theorem Errs.below {E : ErrV} {w w' : World} (h : Errs E w) (hb : Below w.heap.size w w') : Errs E w' :=
  ⟨var_keep (g := 1) (by kernel_rfl) h.due (hb.block _ (var_block (by kernel_rfl) h.due).1),
   var_keep (g := 2) (by kernel_rfl) h.long (hb.block _ (var_block (by kernel_rfl) h.long).1),
   var_keep (g := 7) (by kernel_rfl) h.deep (hb.block _ (var_block (by kernel_rfl) h.deep).1),
   var_keep (g := 8) (by kernel_rfl) h.twice (hb.block _ (var_block (by kernel_rfl) h.twice).1),
   var_keep (g := 9) (by kernel_rfl) h.text (hb.block _ (var_block (by kernel_rfl) h.text).1),
   var_keep (g := 11) (by kernel_rfl) h.number (hb.block _ (var_block (by kernel_rfl) h.number).1),
   var_keep (g := 12) (by kernel_rfl) h.exponent (hb.block _ (var_block (by kernel_rfl) h.exponent).1)⟩
theorem Errs.due_cell {E : ErrV} {w : World} (h : Errs E w) : w.cell? ⟨1, 0, none⟩ = some (.iface 228 (.pointer (some E.due))) := (var_block (by kernel_rfl) h.due).2
theorem Errs.deep_cell {E : ErrV} {w : World} (h : Errs E w) : w.cell? ⟨7, 0, none⟩ = some (.iface 228 (.pointer (some E.deep))) := (var_block (by kernel_rfl) h.deep).2
theorem Errs.twice_cell {E : ErrV} {w : World} (h : Errs E w) : w.cell? ⟨8, 0, none⟩ = some (.iface 228 (.pointer (some E.twice))) := (var_block (by kernel_rfl) h.twice).2
theorem Errs.text_cell {E : ErrV} {w : World} (h : Errs E w) : w.cell? ⟨9, 0, none⟩ = some (.iface 228 (.pointer (some E.text))) := (var_block (by kernel_rfl) h.text).2
theorem Errs.number_cell {E : ErrV} {w : World} (h : Errs E w) : w.cell? ⟨11, 0, none⟩ = some (.iface 228 (.pointer (some E.number))) := (var_block (by kernel_rfl) h.number).2
theorem Errs.exponent_cell {E : ErrV} {w : World} (h : Errs E w) : w.cell? ⟨12, 0, none⟩ = some (.iface 228 (.pointer (some E.exponent))) := (var_block (by kernel_rfl) h.exponent).2
/-- The reader under way. -/
structure RS (E : ErrV) (w0 : World) (s : ByteArray) (i o r : Nat) (W : World) : Prop where
  rd : Rd s i o r W
  le : w0.heap.size ≤ r
  low : Below w0.heap.size w0 W
  errs : Errs E w0
  facts : Facts w0
  size : s.size ≤ 1048576
  at_le : i ≤ s.size
theorem Read.below {r B : Nat} {W W' : World} (h : Read r W W') (hB : B ≤ r) (hs : B ≤ W.heap.size) : Below B W W' := ⟨h.os, h.tape, h.output, h.size, fun k hk => h.block k (by omega) (by intro e; injection e with e; omega)⟩
theorem RS.read {E : ErrV} {w0 : World} {s : ByteArray} {i o r i' o' : Nat} {W W' : World} (h : RS E w0 s i o r W) (hr : Rd s i' o' r W') (hw : Read r W W') (hi : i' ≤ s.size) : RS E w0 s i' o' r W' :=
  ⟨hr, h.le, h.low.trans (hw.below h.le h.low.size), h.errs, h.facts, h.size, hi⟩
theorem RS.below {E : ErrV} {w0 : World} {s : ByteArray} {i o r : Nat} {W W' : World} (h : RS E w0 s i o r W) (hb : Below W.heap.size W W') : RS E w0 s i o r W' := h.read (h.rd.below hb) (Read.of_below hb) h.at_le
theorem RS.er {E : ErrV} {w0 : World} {s : ByteArray} {i o r : Nat} {W : World} (h : RS E w0 s i o r W) : Errs E W := h.errs.below h.low
theorem RS.fct {E : ErrV} {w0 : World} {s : ByteArray} {i o r : Nat} {W : World} (h : RS E w0 s i o r W) : Facts W := h.facts.below h.low
theorem gap_r {E : ErrV} {w0 : World} {s : ByteArray} {i o r : Nat} {w : World} (h : RS E w0 s i o r w) :
    Calls Tryz.prog 57 #[.pointer (some ⟨r, 0, none⟩)] w fun e w' => e = .returned (.tuple #[]) ∧ RS E w0 s (gapTo s i) o r w' ∧ Read r w w' := by
  refine (gap_any s i o r w h.rd (by have := h.size; omega) h.at_le).mono ?_
  rintro e w' ⟨rfl, h1, h2⟩
  exact ⟨rfl, h.read h1 h2 (gapTo_size s i h.at_le), h2⟩
/-- next, its world by its state alone. -/
theorem next_s {E : ErrV} {w0 : World} {s : ByteArray} {i o r : Nat} {w : World} (h : RS E w0 s i o r w) :
    Calls Tryz.prog 81 #[.pointer (some ⟨r, 0, none⟩)] w fun e w' => e = .returned (.int .u8 (byteAt s i)) ∧ RS E w0 s i o r w' ∧ Below w.heap.size w w' := by
  refine (next_any s i o r w h.rd (by have := h.size; omega) (by have := h.size; have := h.at_le; omega)).mono ?_
  rintro e w' ⟨rfl, n, rfl⟩
  exact ⟨rfl, h.below (pw_below_drewN (Below.refl _ _) n), pw_below_drewN (Below.refl _ _) n⟩
/-! ### due -/
set_option maxRecDepth 100000 in
set_option maxHeartbeats 4000000 in
theorem due_no {E : ErrV} {w0 : World} {s : ByteArray} {i o r : Nat} {w : World} (h : RS E w0 s i o r w) (c : Nat) (hc : c < 256) (hne : byteAt s (gapTo s i) ≠ c) :
    Calls Tryz.prog 109 #[.pointer (some ⟨r, 0, none⟩), .int .u8 c] w fun e w' => ∃ v, e = .returned v ∧ IsFault v (gapTo s i) (ev E.due) w' ∧ RS E w0 s (gapTo s i) o r w' ∧ Read r w w' := by
  have b1 : ((byteAt s (gapTo s i) : Int) == (c : Int)) = false := by simp; omega
  have b2 : ((byteAt s (gapTo s i) : Int) != (c : Int)) = true := by simp; omega
  have hbl := byteAt_lt s (gapTo s i)
  have hgs := gapTo_size s i h.at_le
  have hsz := h.size
  have cG := gap_r h
  generalize gapTo s i = j at *
  go_enter Tryz.func109, Tryz.ntmps109
  go_wp2_with (first
    | (go_at_call 81; refine (next_s hR1).mono ?_; rintro e w2 ⟨rfl, hR2, hb2⟩; have hc2 := cellAll hR2.rd; have hd2 := hR2.er.due_cell)
    | (go_at_call 57; refine cG.mono ?_; rintro e w1 ⟨rfl, hR1, hW1⟩))
  go_region_with (go_at_call 56; refine (fail_any _ _ _ _).mono ?_; rintro e w3 ⟨v, rfl, ⟨k, rfl, hk⟩, hb3⟩; replace hk := Aside0.mk hk)
  all_goals (go_wp2_with fail)
  all_goals go_ret
  all_goals (have hb4 : Below w2.heap.size w2 w3 := ⟨hb3.os, hb3.tape, hb3.output, hb3.size, hb3.block⟩)
  all_goals exact ⟨.iface 94 (.pointer (some ⟨k, 0, none⟩)), by simp [Act.put, go_sem], ⟨k, rfl, hk.out⟩, hR2.below hb4, (hW1.trans (Read.of_below hb2)).trans (Read.of_below hb4)⟩

set_option maxRecDepth 100000 in
set_option maxHeartbeats 4000000 in
theorem due_ok {E : ErrV} {w0 : World} {s : ByteArray} {i o r : Nat} {w : World} (h : RS E w0 s i o r w) (c : Nat) (hc0 : 0 < c) (heq : byteAt s (gapTo s i) = c) :
    Calls Tryz.prog 109 #[.pointer (some ⟨r, 0, none⟩), .int .u8 c] w fun e w' => e = .returned .nilIface ∧ RS E w0 s (gapTo s (gapTo s i + 1)) o r w' ∧ Read r w w' := by
  have b1 : ((byteAt s (gapTo s i) : Int) == (c : Int)) = true := by simp; omega
  have b2 : ((byteAt s (gapTo s i) : Int) != (c : Int)) = false := by simp; omega
  have hgl : gapTo s i < s.size := by
    apply Decidable.byContradiction
    intro hn
    unfold byteAt at heq
    rw [dif_neg hn] at heq
    omega
  have hsz := h.size
  have cG := gap_r h
  have cG2 := fun (W : World) (hW : RS E w0 s (gapTo s i + 1) o r W) => gap_r hW
  generalize gapTo s i = j at *
  generalize gapTo s (j + 1) = j2 at *
  go_enter Tryz.func109, Tryz.ntmps109
  go_wp2_with (first
    | (go_at_call 57; refine (cG2 _ hR3.out).mono ?_; rintro e w4 ⟨rfl, hR4, hW4⟩)
    | (go_at_call 81; refine (next_s hR1).mono ?_; rintro e w2 ⟨rfl, hR2, hb2⟩; have hc2 := cellAll hR2.rd; have hf2 := frozenAll hR2.rd; have hR3 := Aside0.mk (hR2.read (hR2.rd.at_ (j + 1)) ((Read.refl r w2).set_ 1 _) (by omega)); have hW3 := Aside0.mk ((hW1.trans (Read.of_below hb2)).set_ 1 (.int .i64 ((j + 1 : Nat) : Int))); rw [show (((j + 1 : Nat) : Int)) = (j : Int) + 1 by omega] at hR3 hW3)
    | (go_at_call 57; refine cG.mono ?_; rintro e w1 ⟨rfl, hR1, hW1⟩))
  go_ret
  exact ⟨rfl, hR4, hW3.out.trans hW4⟩
end Go.Proofs.YtkdeleafgailhaaGreatDoor
end
section
set_option linter.unusedVariables false
set_option linter.unusedSimpArgs false
namespace Go.Proofs.YtkdeleafgailhaaGreatDoor
open Go Go.RowKit Go.Proofs.YtkdeleafgailhaaGreatDoorW.PrintWords Go.Extern Go.Extern.Rtype

theorem kind_pp (w : World) : (kind 96).run Tryz.prog w = .ok 22 w := by kernel_rfl
theorem kind_p (w : World) : (kind 94).run Tryz.prog w = .ok 22 w := by kernel_rfl
theorem run_valueOf_pp (p : Option Addr) (w : World) :
    (ReflectliteValue.unpack (.iface 96 (.pointer p))).run Tryz.prog w = .ok (.agg #[typeHandle Tryz.prog 96, .pointer (some ⟨w.heap.size, 0, none⟩), .int .u64 150]) (w.alloc (.cells #[.pointer p] 96)) := by
  simp [ReflectliteValue.unpack, ReflectliteValue.mk, newVar, newRow, handle, kind_pp, Result.andThen, Value.cells, ReflectliteValue.flagIndir]
theorem rl_methodAny (z : Sem Value) (f : TypeId → Addr → Nat → Nat → Sem Value) (v : Value) :
    ReflectliteValue.methodAny z f #[v] = (do match ← ReflectliteValue.partsAny v with | none => z | some (t, a, fl) => f t a fl (fl % 32)) := rfl
theorem rl_parts150 (h : Value) (a : Addr) : ReflectliteValue.partsAny (.agg #[h, .pointer (some a), .int .u64 150]) = (do pure (some (← ofHandle h, a, 150))) := rfl
theorem run_toType (t : TypeId) (w : World) : (ReflectliteType.toType t).run Tryz.prog w = .ok (.iface 167 (.agg #[typeHandle Tryz.prog t])) w := by
  have hc : ∀ w, (cutType "internal/reflectlite.rtype").run Tryz.prog w = .ok 167 w := fun w => by kernel_rfl
  simp [ReflectliteType.toType, hc, handle, Result.andThen]
theorem run_type_pp (a : Addr) (w : World) :
    (ReflectliteValue.methodAny (ReflectliteValue.valueError "reflectlite.Value.Type" 0) (fun t _ _ _ => ReflectliteType.toType t) #[.agg #[typeHandle Tryz.prog 96, .pointer (some a), .int .u64 150]]).run Tryz.prog w = .ok (.iface 167 (.agg #[typeHandle Tryz.prog 96])) w := by
  rw [rl_methodAny, rl_parts150]
  simp [ofHandle, handleType, typeHandle, run_toType, Result.andThen]
theorem pk_pp : Tryz.prog.packed 96 = false := by kernel_rfl
theorem pk_p : Tryz.prog.packed 94 = false := by kernel_rfl
theorem run_valueOf_p (p : Option Addr) (w : World) :
    (ReflectliteValue.unpack (.iface 94 (.pointer p))).run Tryz.prog w = .ok (.agg #[typeHandle Tryz.prog 94, .pointer (some ⟨w.heap.size, 0, none⟩), .int .u64 150]) (w.alloc (.cells #[.pointer p] 94)) := by
  simp [ReflectliteValue.unpack, ReflectliteValue.mk, newVar, newRow, handle, kind_p, Result.andThen, Value.cells, ReflectliteValue.flagIndir]
theorem rl_ofRtype (h : Value) : ReflectliteType.ofRtype (.agg #[h]) = (do let t ← ofHandle h; noPack "a Type asked or handed on" t; pure t) := rfl
theorem run_ofRtype_pp (w : World) : (ReflectliteType.ofRtype (.agg #[typeHandle Tryz.prog 96])).run Tryz.prog w = .ok 96 w := by
  rw [rl_ofRtype]
  simp [ofHandle, handleType, typeHandle, Lib.rl_noPack _ _ pk_pp, Result.andThen]
theorem run_ofRtype_p (w : World) : (ReflectliteType.ofRtype (.agg #[typeHandle Tryz.prog 94])).run Tryz.prog w = .ok 94 w := by
  rw [rl_ofRtype]
  simp [ofHandle, handleType, typeHandle, Lib.rl_noPack _ _ pk_p, Result.andThen]
theorem pk_e : Tryz.prog.packed 51 = false := by kernel_rfl
theorem run_ofRtype_e (w : World) : (ReflectliteType.ofRtype (.agg #[typeHandle Tryz.prog 51])).run Tryz.prog w = .ok 51 w := by
  rw [rl_ofRtype]
  simp [ofHandle, handleType, typeHandle, Lib.rl_noPack _ _ pk_e, Result.andThen]
theorem rl_relation (s : String) (f : TypeId → TypeId → Sem Bool) (r u : Value) (t : TypeId) : ReflectliteType.relation s f #[r, .iface t u] = (do pure (.bool (← f (← ReflectliteType.ofRtype u) (← ReflectliteType.ofRtype r)))) := rfl
theorem rl_tmethod (f : TypeId → Sem Value) (r : Value) : ReflectliteType.method f #[r] = (do f (← ReflectliteType.ofRtype r)) := rfl
theorem rl_abi (f : TypeId → Sem Value) (h : Value) : ReflectliteType.abiMethod f #[h] = (do let t ← ofHandle h; noPack "a method of abi.Type" t; f t) := rfl
theorem run_implements (w : World) : (ReflectliteType.implements_ 51 94).run Tryz.prog w = .ok true w := by kernel_rfl
theorem run_assignable (w : World) : (ReflectliteType.assignableTo 94 94).run Tryz.prog w = .ok true w := by kernel_rfl
theorem run_direct (w : World) : (directlyAssignable 94 94).run Tryz.prog w = .ok true w := by kernel_rfl
theorem run_elem_pp (w : World) : (elem? 96).run Tryz.prog w = .ok (some 94) w := by kernel_rfl
/-! ### the calls -/
theorem call_valueOf_pp (p : Option Addr) (w : World) : (callFunc 89 #[.iface 96 (.pointer p)]).run Tryz.prog w = .ok (.value (.agg #[typeHandle Tryz.prog 96, .pointer (some ⟨w.heap.size, 0, none⟩), .int .u64 150])) (w.alloc (.cells #[.pointer p] 96)) := by
  rw [run_callFunc_extern Tryz.func89 (by kernel_rfl) (by kernel_rfl) (by kernel_rfl) (e := fun args => ReflectliteValue.unpack (args.getD 0 (.tuple #[]))) (by kernel_rfl)]
  rw [show Sem.run Tryz.prog ((fun args : Array Value => ReflectliteValue.unpack (args.getD 0 (.tuple #[]))) #[.iface 96 (.pointer p)]) w = _ from run_valueOf_pp p w]
  rfl
theorem call_valueOf_p (p : Option Addr) (w : World) : (callFunc 89 #[.iface 94 (.pointer p)]).run Tryz.prog w = .ok (.value (.agg #[typeHandle Tryz.prog 94, .pointer (some ⟨w.heap.size, 0, none⟩), .int .u64 150])) (w.alloc (.cells #[.pointer p] 94)) := by
  rw [run_callFunc_extern Tryz.func89 (by kernel_rfl) (by kernel_rfl) (by kernel_rfl) (e := fun args => ReflectliteValue.unpack (args.getD 0 (.tuple #[]))) (by kernel_rfl)]
  rw [show Sem.run Tryz.prog ((fun args : Array Value => ReflectliteValue.unpack (args.getD 0 (.tuple #[]))) #[.iface 94 (.pointer p)]) w = _ from run_valueOf_p p w]
  rfl
theorem call_type_pp (a : Addr) (w : World) : (callFunc 90 #[.agg #[typeHandle Tryz.prog 96, .pointer (some a), .int .u64 150]]).run Tryz.prog w = .ok (.value (.iface 167 (.agg #[typeHandle Tryz.prog 96]))) w := by
  rw [run_callFunc_extern Tryz.func90 (by kernel_rfl) (by kernel_rfl) (by kernel_rfl) (e := ReflectliteValue.methodAny (ReflectliteValue.valueError "reflectlite.Value.Type" 0) fun t _ _ _ => ReflectliteType.toType t) (by kernel_rfl), run_type_pp]
  rfl
theorem call_kind_pp (w : World) : (callFunc 192 #[typeHandle Tryz.prog 96]).run Tryz.prog w = .ok (.value (.int .u8 22)) w := by
  rw [run_callFunc_extern Tryz.func192 (by kernel_rfl) (by kernel_rfl) (by kernel_rfl) (e := ReflectliteType.abiMethod fun t => do pure (.int .u8 (← kind t))) (by kernel_rfl), rl_abi]
  simp [ofHandle, handleType, typeHandle, Lib.rl_noPack _ _ pk_pp, kind_pp, Result.andThen]
theorem call_kind_p (w : World) : (callFunc 192 #[typeHandle Tryz.prog 94]).run Tryz.prog w = .ok (.value (.int .u8 22)) w := by
  rw [run_callFunc_extern Tryz.func192 (by kernel_rfl) (by kernel_rfl) (by kernel_rfl) (e := ReflectliteType.abiMethod fun t => do pure (.int .u8 (← kind t))) (by kernel_rfl), rl_abi]
  simp [ofHandle, handleType, typeHandle, Lib.rl_noPack _ _ pk_p, kind_p, Result.andThen]
theorem call_elem_pp (w : World) : (callFunc 204 #[.agg #[typeHandle Tryz.prog 96]]).run Tryz.prog w = .ok (.value (.iface 167 (.agg #[typeHandle Tryz.prog 94]))) w := by
  rw [run_callFunc_extern Tryz.func204 (by kernel_rfl) (by kernel_rfl) (by kernel_rfl) (e := ReflectliteType.method ReflectliteType.elem) (by kernel_rfl), rl_tmethod]
  simp [run_ofRtype_pp, ReflectliteType.elem, run_elem_pp, run_toType, Result.andThen]
theorem call_implements (w : World) : (callFunc 205 #[.agg #[typeHandle Tryz.prog 94], .iface 167 (.agg #[typeHandle Tryz.prog 51])]).run Tryz.prog w = .ok (.value (.bool true)) w := by
  rw [run_callFunc_extern Tryz.func205 (by kernel_rfl) (by kernel_rfl) (by kernel_rfl) (e := ReflectliteType.relation "Implements" ReflectliteType.implements_) (by kernel_rfl), rl_relation]
  simp [run_ofRtype_p, run_ofRtype_e, run_implements, Result.andThen]
theorem call_typeOf_p (p : Option Addr) (w : World) : (callFunc 114 #[.iface 94 (.pointer p)]).run Tryz.prog w = .ok (.value (.iface 167 (.agg #[typeHandle Tryz.prog 94]))) w := by
  rw [run_callFunc_extern Tryz.func114 (by kernel_rfl) (by kernel_rfl) (by kernel_rfl) (e := ReflectliteType.typeOf) (by kernel_rfl)]
  rw [show ReflectliteType.typeOf #[.iface 94 (.pointer p)] = ReflectliteType.toType 94 from rfl, run_toType]
  rfl
theorem call_assignable (w : World) : (callFunc 202 #[.agg #[typeHandle Tryz.prog 94], .iface 167 (.agg #[typeHandle Tryz.prog 94])]).run Tryz.prog w = .ok (.value (.bool true)) w := by
  rw [run_callFunc_extern Tryz.func202 (by kernel_rfl) (by kernel_rfl) (by kernel_rfl) (e := ReflectliteType.relation "AssignableTo" ReflectliteType.assignableTo) (by kernel_rfl), rl_relation]
  simp [run_ofRtype_p, run_assignable, Result.andThen]
theorem run_parts150 (t : TypeId) (a : Addr) (hpk : Tryz.prog.packed t = false) (w : World) : (ReflectliteValue.parts (.agg #[typeHandle Tryz.prog t, .pointer (some a), .int .u64 150])).run Tryz.prog w = .ok (some (t, a, 150)) w := by
  unfold ReflectliteValue.parts
  rw [rl_parts150]
  simp [ofHandle, handleType, typeHandle, Lib.rl_noPack _ t hpk, Result.andThen]
theorem rl_parts406 (h : Value) (a : Addr) : ReflectliteValue.partsAny (.agg #[h, .pointer (some a), .int .u64 406]) = (do pure (some (← ofHandle h, a, 406))) := rfl
theorem run_parts406 (t : TypeId) (a : Addr) (hpk : Tryz.prog.packed t = false) (w : World) : (ReflectliteValue.parts (.agg #[typeHandle Tryz.prog t, .pointer (some a), .int .u64 406])).run Tryz.prog w = .ok (some (t, a, 406)) w := by
  unfold ReflectliteValue.parts
  rw [rl_parts406]
  simp [ofHandle, handleType, typeHandle, Lib.rl_noPack _ t hpk, Result.andThen]
theorem call_isNil (a p : Addr) (w : World) (h : w.cell? a = some (.pointer (some p))) : (callFunc 91 #[.agg #[typeHandle Tryz.prog 96, .pointer (some a), .int .u64 150]]).run Tryz.prog w = .ok (.value (.bool false)) w := by
  rw [run_callFunc_extern Tryz.func91 (by kernel_rfl) (by kernel_rfl) (by kernel_rfl) (e := ReflectliteValue.method (ReflectliteValue.valueError "reflectlite.Value.IsNil" 0) ReflectliteValue.isNil) (by kernel_rfl), Lib.rl_method]
  have u := Tryz.underlying96
  simp [run_parts150 _ _ pk_pp, ReflectliteValue.isNil, loadVar, isAgg, underlying, u, h, Result.andThen]
theorem call_velem (a p : Addr) (w : World) (h : w.cell? a = some (.pointer (some p))) : (callFunc 115 #[.agg #[typeHandle Tryz.prog 96, .pointer (some a), .int .u64 150]]).run Tryz.prog w = .ok (.value (.agg #[typeHandle Tryz.prog 94, .pointer (some p), .int .u64 406])) w := by
  rw [run_callFunc_extern Tryz.func115 (by kernel_rfl) (by kernel_rfl) (by kernel_rfl) (e := ReflectliteValue.method (ReflectliteValue.valueError "reflectlite.Value.Elem" 0) ReflectliteValue.elem) (by kernel_rfl), Lib.rl_method]
  have u := Tryz.underlying96
  simp [run_parts150 _ _ pk_pp, ReflectliteValue.elem, loadVar, isAgg, underlying, u, h, run_elem_pp, ReflectliteValue.mk, handle, kind_p, ReflectliteValue.flagIndir, ReflectliteValue.flagAddr, Result.andThen]
end Go.Proofs.YtkdeleafgailhaaGreatDoor
end
section
set_option linter.unusedVariables false
set_option linter.unusedSimpArgs false
namespace Go.Proofs.YtkdeleafgailhaaGreatDoor
open Go Go.RowKit Go.Proofs.YtkdeleafgailhaaGreatDoorW.PrintWords Go.Extern Go.Extern.Rtype

theorem match_set (v x : Value) (F : Value → Value → Sem Value) (G : Array Value → Sem Value) : ReflectliteValue.set.match_3 (fun _ => Sem Value) #[v, x] F G = F v x := rfl
theorem run_set (a b p : Addr) (w : World) (hb : w.cell? b = some (.pointer (some p))) (v0 : Value) (ha : w.cell? a = some v0) (hf : w.frozen? a = false) :
    (ReflectliteValue.set #[.agg #[typeHandle Tryz.prog 94, .pointer (some a), .int .u64 406], .agg #[typeHandle Tryz.prog 94, .pointer (some b), .int .u64 150]]).run Tryz.prog w = .ok (.tuple #[]) (w.setCell a (.pointer (some p))) := by
  have u := Tryz.underlying94
  have h1 := run_parts406 94 a pk_p
  have h2 := run_parts150 94 b pk_p
  generalize hv : (Value.agg #[typeHandle Tryz.prog 94, .pointer (some a), .int .u64 406]) = x at *
  generalize hy : (Value.agg #[typeHandle Tryz.prog 94, .pointer (some b), .int .u64 150]) = y at *
  delta ReflectliteValue.set
  rw [match_set]
  simp [h1, h2, run_direct, ReflectliteValue.flagAddr, loadVar, storeVar, isAgg, underlying, u, hb, ha, hf, Result.andThen, Value.cells, storeCells, Addr.add_zero', run_store_pointer, stored]
theorem call_set (a b p : Addr) (w : World) (hb : w.cell? b = some (.pointer (some p))) (v0 : Value) (ha : w.cell? a = some v0) (hf : w.frozen? a = false) :
    (callFunc 116 #[.agg #[typeHandle Tryz.prog 94, .pointer (some a), .int .u64 406], .agg #[typeHandle Tryz.prog 94, .pointer (some b), .int .u64 150]]).run Tryz.prog w = .ok (.value (.tuple #[])) (w.setCell a (.pointer (some p))) := by
  rw [run_callFunc_extern Tryz.func116 (by kernel_rfl) (by kernel_rfl) (by kernel_rfl) (e := ReflectliteValue.set) (by kernel_rfl), run_set a b p w hb v0 ha hf]
  rfl

set_option maxRecDepth 100000 in
set_option maxHeartbeats 4000000 in
/-- errors.As of nil. -/
theorem as_nil (T : TypeId) (x : Value) (w : World) : Calls Tryz.prog 59 #[.nilIface, .iface T x] w fun e w' => e = .returned (.bool false) ∧ w' = w := by
  go_enter Tryz.func59, Tryz.ntmps59
  go_wp2_with fail
  go_ret
  exact ⟨rfl, rfl⟩

theorem meth_assignable (a : Option Addr) (w : World) : (method (Tryz.prog.types.size + Made.depth) 167 (.agg #[.pointer a]) "AssignableTo").run Tryz.prog w = .ok (202, .agg #[.pointer a]) w := by kernel_rfl
theorem meth_elem (a : Option Addr) (w : World) : (method (Tryz.prog.types.size + Made.depth) 167 (.agg #[.pointer a]) "Elem").run Tryz.prog w = .ok (204, .agg #[.pointer a]) w := by kernel_rfl
theorem meth_implements (a : Option Addr) (w : World) : (method (Tryz.prog.types.size + Made.depth) 167 (.agg #[.pointer a]) "Implements").run Tryz.prog w = .ok (205, .agg #[.pointer a]) w := by kernel_rfl
theorem meth_kind (a : Option Addr) (w : World) : (method (Tryz.prog.types.size + Made.depth) 167 (.agg #[.pointer a]) "Kind").run Tryz.prog w = .ok (192, .pointer a) w := by kernel_rfl
theorem handle_p (t : TypeId) : ∃ a, typeHandle Tryz.prog t = .pointer (some a) := ⟨_, rfl⟩
set_option maxRecDepth 100000 in
set_option maxHeartbeats 4000000 in
/-- errors.as: its first round sets the target. -/
theorem as_go (k f b : Nat) (w : World) (hf : w.heap[f]? = some (.cells #[.pointer none] 94 (0, 0))) (hb : w.cell? ⟨b, 0, none⟩ = some (.pointer (some ⟨f, 0, none⟩))) (x : Value) :
    Calls Tryz.prog 92 #[.iface 94 (.pointer (some ⟨k, 0, none⟩)), x, .agg #[typeHandle Tryz.prog 96, .pointer (some ⟨b, 0, none⟩), .int .u64 150], .iface 167 (.agg #[typeHandle Tryz.prog 94])] w fun e w' => e = .returned (.bool true) ∧ w'.heap[f]? = some (.cells #[.pointer (some ⟨k, 0, none⟩)] 94 (0, 0)) ∧ Read f w w' := by
  have h76 := call_typeOf_p (some ⟨k, 0, none⟩)
  have h172 := call_assignable
  have h52b := call_valueOf_p (some ⟨k, 0, none⟩)
  obtain ⟨app, happ⟩ := handle_p 96
  obtain ⟨ap, hap⟩ := handle_p 94
  simp only [happ, hap] at h76 h172 h52b ⊢
  obtain ⟨W1, hW1⟩ : ∃ W1, w.alloc (.cells #[.pointer (some app), .pointer (some ⟨b, 0, none⟩), .int .u64 150] 137) = W1 := ⟨_, rfl⟩
  have hB1 : Below w.heap.size w W1 := by rw [← hW1]; exact (Below.refl w.heap.size w).alloc (Nat.le_refl _) _
  have hb1 := pw_cell_below hB1 hb
  have hbox : W1.heap[w.heap.size]? = some (.cells #[.pointer (some app), .pointer (some ⟨b, 0, none⟩), .int .u64 150] 137 (0, 0)) := by rw [← hW1]; exact heap_alloc_new w _
  have hf1 := (hB1.block f (blk_lt hf)).trans hf
  have hcb := cellAll hbox
  have h77 := call_velem ⟨b, 0, none⟩ ⟨f, 0, none⟩ W1 hb1
  have hB2 : Below W1.heap.size W1 (W1.alloc (.cells #[.pointer (some ⟨k, 0, none⟩)] 94)) := (Below.refl W1.heap.size W1).alloc (Nat.le_refl _) _
  have hn2 := cellAll (heap_alloc_new W1 (.cells #[.pointer (some ⟨k, 0, none⟩)] 94)) 0
  have hf2 := (hB2.block f (blk_lt hf1)).trans hf1
  have h78 := call_set ⟨f, 0, none⟩ ⟨W1.heap.size, 0, none⟩ ⟨k, 0, none⟩ (W1.alloc (.cells #[.pointer (some ⟨k, 0, none⟩)] 94)) hn2 (.pointer none) (by have := cellAll hf2 0; simpa using this) (by have := frozenAll hf2 0; simpa using this)
  simp only [happ, hap] at h77 h78
  replace hf2 := Aside0.mk hf2
  replace hB2 := Aside0.mk hB2
  clear hn2 hb1 happ hap
  have hm1 := meth_assignable (some ap)
  have hm2 := hm1
  simp at hm2
  have hm3 := hm1
  simp [Made.depth] at hm3
  go_enter Tryz.func92, Tryz.ntmps92
  go_wp2_with fail
  go_loopw [0] (fun x0 wr => x0 = .iface 94 (.pointer (some ⟨k, 0, none⟩)) ∧ wr = W1) (fun _ wr => 0)
  case atStart => exact ⟨rfl, rfl⟩
  case round =>
    obtain ⟨rfl, rfl⟩ := hrel
    go_wp2_with fail

    go_ret
    refine ⟨rfl, ?_, ?_⟩
    · exact blk_set hf2.out 0 _
    · exact ((Read.of_below hB1).trans (Read.of_below hB2.out)).set_ 0 _
end Go.Proofs.YtkdeleafgailhaaGreatDoor
end
section
set_option linter.unusedVariables false
set_option linter.unusedSimpArgs false
namespace Go.Proofs.YtkdeleafgailhaaGreatDoor
open Go Go.RowKit Go.Proofs.YtkdeleafgailhaaGreatDoorW.PrintWords Go.Extern Go.Extern.Rtype

set_option maxRecDepth 100000 in
set_option maxHeartbeats 4000000 in
theorem as_fault (k f : Nat) (w : World) (hf : w.heap[f]? = some (.cells #[.pointer none] 94 (0, 0))) (hE : w.cell? ⟨4, 0, none⟩ = some (.iface 167 (.agg #[typeHandle Tryz.prog 51]))) :
    Calls Tryz.prog 59 #[.iface 94 (.pointer (some ⟨k, 0, none⟩)), .iface 96 (.pointer (some ⟨f, 0, none⟩))] w fun e w' => e = .returned (.bool true) ∧ w'.heap[f]? = some (.cells #[.pointer (some ⟨k, 0, none⟩)] 94 (0, 0)) ∧ Read f w w' := by
  have h52 := call_valueOf_pp (some ⟨f, 0, none⟩)
  have h53 := call_type_pp
  have h161 := call_kind_pp
  have h161b := call_kind_p
  have h174 := call_elem_pp
  have h175 := call_implements
  obtain ⟨app, happ⟩ := handle_p 96
  obtain ⟨ap, hap⟩ := handle_p 94
  obtain ⟨ae, hae⟩ := handle_p 51
  have hB1 := (Below.refl w.heap.size w).alloc (Nat.le_refl _) (.cells #[.pointer (some ⟨f, 0, none⟩)] 96)
  have hn1 := heap_alloc_new w (.cells #[.pointer (some ⟨f, 0, none⟩)] 96)
  have hB2 := hB1.alloc (by simp) (.cells #[.pointer (some app), .pointer (some ⟨w.heap.size, 0, none⟩), .int .u64 150] 137)
  have hn2 := (heap_alloc_old (w.alloc (.cells #[.pointer (some ⟨f, 0, none⟩)] 96)) (.cells #[.pointer (some app), .pointer (some ⟨w.heap.size, 0, none⟩), .int .u64 150] 137) (by simp)).trans hn1
  obtain ⟨W2, hW2⟩ : ∃ W2, (w.alloc (.cells #[.pointer (some ⟨f, 0, none⟩)] 96)).alloc (.cells #[.pointer (some app), .pointer (some ⟨w.heap.size, 0, none⟩), .int .u64 150] 137) = W2 := ⟨_, rfl⟩
  have hbx : W2.heap[w.heap.size + 1]? = some (.cells #[.pointer (some app), .pointer (some ⟨w.heap.size, 0, none⟩), .int .u64 150] 137 (0, 0)) := by
    rw [← hW2]
    have := heap_alloc_new (w.alloc (.cells #[.pointer (some ⟨f, 0, none⟩)] 96)) (.cells #[.pointer (some app), .pointer (some ⟨w.heap.size, 0, none⟩), .int .u64 150] 137)
    simpa using this
  rw [hW2] at hB2 hn2
  have hb2 : W2.cell? ⟨w.heap.size, 0, none⟩ = some (.pointer (some ⟨f, 0, none⟩)) := by have := cellAll hn2 0; simpa using this
  have h54 := call_isNil ⟨w.heap.size, 0, none⟩ ⟨f, 0, none⟩ W2 hb2
  have hf2 := (hB2.block f (blk_lt hf)).trans hf
  have hE2 := pw_cell_below hB2 hE
  have cA := as_go k f w.heap.size W2 hf2 hb2 (.iface 96 (.pointer (some ⟨f, 0, none⟩)))
  have m1 := meth_kind (some app)
  have m2 := meth_kind (some ap)
  have m3 := meth_elem (some app)
  have m4 := meth_implements (some ap)
  have n1 := m1
  have n2 := m2
  have n3 := m3
  have n4 := m4
  simp [Made.depth] at m1 m2 m3 m4
  simp at n1 n2 n3 n4
  simp only [happ, hap, hae] at h52 h53 h161 h161b h174 h175 h54 cA hE2
  have hcb := cellAll hbx
  have hK : ∀ w', Read f W2 w' → Read f w w' := fun w' h => (Read.of_below hB2).trans h
  replace hB2 := Aside0.mk hB2
  replace hK := Aside0.mk hK
  clear happ hap hae hB1 hn1 hn2 hf hf2 hE hbx
  go_enter Tryz.func59, Tryz.ntmps59
  go_wp2_with (go_at_call 92; refine cA.mono ?_; rintro e w3 ⟨rfl, h3, h4⟩)
  go_ret
  exact ⟨rfl, h3, hK.out _ h4⟩
end Go.Proofs.YtkdeleafgailhaaGreatDoor
end
section
namespace Go.Proofs.YtkdeleafgailhaaGreatDoor
open Go

def jumps (J : Nat → Act → World → Prop) (Q : Exit → Act → World → Prop) : Exit → Act → World → Prop
  | .goto l, a, w => J l a w
  | e, a, w => Q e a w
theorem wp_scope_labels {P : Program} {a : Act} {w : World} {Q : Exit → Act → World → Prop} {c : Code} (J : Nat → Act → World → Prop) (μ : Nat → Act → World → Nat)
    (first : c.wp P (jumps J Q) a w)
    (pass : ∀ l a w, J l a w → ∃ rest, findLabel c l = some rest ∧ rest.wp P (jumps (fun l' a' w' => J l' a' w' ∧ μ l' a' w' < μ l a w) Q) a w) : (Code.scope c).wp P Q a w := by
  intro b k cs
  have hg : ∀ l rest, findLabel c l = some rest → gotoIn l (.inScope c :: k) = some (.code rest :: .inScope c :: k) := fun l rest hf => by simp [gotoIn, hf]
  have key : ∀ n l a w, μ l a w = n → J l a w → ∃ rest, findLabel c l = some rest ∧ ∃ e a' w', Q e a' w' ∧ Arrives P (lone (b.at a (.code rest :: .inScope c :: k)) cs w) b k cs e a' w' := by
    intro n
    induction n using Nat.strongRecOn with
    | _ n ih =>
      intro l a w hn hJ
      obtain ⟨rest, hf, hp⟩ := pass l a w hJ
      refine ⟨rest, hf, ?_⟩
      obtain ⟨e, a₁, w₁, hq, harr⟩ := hp b (.inScope c :: k) cs
      cases e with
      | normal => exact ⟨.normal, a₁, w₁, hq, Steps.trans harr (.one step_inScope)⟩
      | exit id => exact ⟨.exit id, a₁, w₁, hq, fun k' hk => harr k' (by simp [exitTo, hk])⟩
      | goto l' =>
        obtain ⟨hJ', hlt⟩ := hq
        obtain ⟨rest₂, hf₂, e₂, a₂, w₂, hq₂, harr₂⟩ := ih _ (by omega) l' a₁ w₁ rfl hJ'
        exact ⟨e₂, a₂, w₂, hq₂, .of_steps (harr _ (hg l' rest₂ hf₂)) harr₂⟩
      | ret => exact ⟨_, a₁, w₁, hq, harr⟩
      | panic ch => exact ⟨_, a₁, w₁, hq, harr⟩
      | outgrown => exact ⟨_, a₁, w₁, hq, harr⟩
  obtain ⟨e, a₁, w₁, hq, harr⟩ := first b (.inScope c :: k) cs
  cases e with
  | normal => exact ⟨.normal, a₁, w₁, hq, .head step_scope (Steps.trans harr (.one step_inScope))⟩
  | exit id => exact ⟨.exit id, a₁, w₁, hq, fun k' hk => .head step_scope (harr k' (by simp [exitTo, hk]))⟩
  | goto l' =>
    obtain ⟨rest₂, hf₂, e₂, a₂, w₂, hq₂, harr₂⟩ := key _ l' a₁ w₁ rfl hq
    exact ⟨e₂, a₂, w₂, hq₂, .of_steps (.head step_scope (harr _ (hg l' rest₂ hf₂))) harr₂⟩
  | ret => exact ⟨_, a₁, w₁, hq, .of_steps (.one step_scope) harr⟩
  | panic ch => exact ⟨_, a₁, w₁, hq, .of_steps (.one step_scope) harr⟩
  | outgrown => exact ⟨_, a₁, w₁, hq, .of_steps (.one step_scope) harr⟩
end Go.Proofs.YtkdeleafgailhaaGreatDoor
end
section
set_option linter.unusedVariables false
set_option linter.unusedSimpArgs false
namespace Go.Proofs.YtkdeleafgailhaaGreatDoor
open Go Go.RowKit Go.Proofs.YtkdeleafgailhaaGreatDoorW.PrintWords

/-! ### plain -/
def isDg (c : Nat) : Bool := decide (48 ≤ c) && decide (c ≤ 57)
def nFar (x : Int) : Int := min 1099511627776 x
def nEnd (s : ByteArray) (i : Nat) (neg : Bool) (bs : List Int) (exp sign tens : Int) : Option (Bool × List Int × Int) :=
  if i = s.size then some (neg, bs, exp + sign * tens) else none
def nDig (s : ByteArray) : Nat → Nat → Bool → List Int → Int → Int → Int → Option (Bool × List Int × Int)
  | 0, _, _, _, _, _, _ => none
  | n + 1, i, neg, bs, exp, sign, tens =>
    if isDg (byteAt s (i + 1)) = true then nDig s n (i + 1) neg bs exp sign (nFar (10 * tens + ((byteAt s i : Int) - 48)))
    else nEnd s (i + 1) neg bs exp sign (nFar (10 * tens + ((byteAt s i : Int) - 48)))
def nExp (s : ByteArray) (i : Nat) (neg : Bool) (bs : List Int) (exp sign : Int) : Option (Bool × List Int × Int) :=
  if isDg (byteAt s i) = true then nDig s (s.size + 1) i neg bs exp sign 0 else none
def nPow (s : ByteArray) (i : Nat) (neg : Bool) (bs : List Int) (exp : Int) : Option (Bool × List Int × Int) :=
  if byteAt s i = 101 ∨ byteAt s i = 69 then
    (if byteAt s (i + 1) = 45 then nExp s (i + 2) neg bs exp (-1)
     else if byteAt s (i + 1) = 43 then nExp s (i + 2) neg bs exp 1
     else nExp s (i + 1) neg bs exp 1)
  else nEnd s i neg bs exp 1 0
def nFrac (s : ByteArray) : Nat → Nat → Bool → List Int → Int → Option (Bool × List Int × Int)
  | 0, _, _, _, _ => none
  | n + 1, i, neg, bs, exp =>
    if isDg (byteAt s (i + 1)) = true then nFrac s n (i + 1) neg (bs ++ [(byteAt s i : Int)]) (exp - 1)
    else nPow s (i + 1) neg (bs ++ [(byteAt s i : Int)]) (exp - 1)
def nBeh (s : ByteArray) (i : Nat) (neg : Bool) (bs : List Int) : Option (Bool × List Int × Int) :=
  if byteAt s i = 46 then (if isDg (byteAt s (i + 1)) = true then nFrac s (s.size + 1) (i + 1) neg bs 0 else none)
  else nPow s i neg bs 0
def nFst (s : ByteArray) : Nat → Nat → Bool → List Int → Option (Bool × List Int × Int)
  | 0, _, _, _ => none
  | n + 1, i, neg, bs =>
    if isDg (byteAt s (i + 1)) = true then nFst s n (i + 1) neg (bs ++ [(byteAt s i : Int)])
    else nBeh s (i + 1) neg (bs ++ [(byteAt s i : Int)])
def nNum (s : ByteArray) (i : Nat) (neg : Bool) : Option (Bool × List Int × Int) :=
  if byteAt s i = 48 then nBeh s (i + 1) neg [48]
  else if byteAt s i < 49 ∨ 57 < byteAt s i then none
  else nFst s (s.size + 1) i neg []
def numeral (s : ByteArray) : Option (Bool × List Int × Int) := if byteAt s 0 = 45 then nNum s 1 true else nNum s 0 false

theorem byteAt_in {s : ByteArray} {i : Nat} (h : 0 < byteAt s i) : i < s.size := by
  apply Decidable.byContradiction
  intro hn
  unfold byteAt at h
  rw [dif_neg hn] at h
  omega
theorem isDg_in {s : ByteArray} {i : Nat} (h : isDg (byteAt s i) = true) : 48 ≤ byteAt s i ∧ byteAt s i ≤ 57 ∧ i < s.size := by
  unfold isDg at h
  simp only [Bool.and_eq_true, decide_eq_true_eq] at h
  exact ⟨h.1, h.2, byteAt_in (by omega)⟩

/-! ### in memory -/
/-- The closure at, as its slot holds it; w: the call's first world. -/
def nClo (w : World) : Value := .func (.func 148) #[] #[.pointer (some ⟨w.heap.size + 1, 0, none⟩), .pointer (some ⟨w.heap.size, 0, none⟩)]
structure NW (s : ByteArray) (w : World) (i : Nat) (v : Value) (bs : List Int) (W : World) : Prop where
  str : W.heap[w.heap.size]? = some (.cells #[.string s] 9 (0, 0))
  idx : W.heap[w.heap.size + 1]? = some (.cells #[.int .i64 i] 3 (0, 0))
  own : W.ownsRow w.heap.size 5 1 v bs.length (nums .u8 bs)
  low : Below w.heap.size w W
theorem NW.le {s : ByteArray} {w : World} {i : Nat} {v : Value} {bs : List Int} {W : World} (h : NW s w i v bs W) : w.heap.size + 2 ≤ W.heap.size := by have := blk_lt h.idx; omega
theorem NW.below {s : ByteArray} {w : World} {i : Nat} {v : Value} {bs : List Int} {W W' : World} (h : NW s w i v bs W) (hb : Below W.heap.size W W') : NW s w i v bs W' :=
  ⟨(hb.block _ (blk_lt h.str)).trans h.str, (hb.block _ (blk_lt h.idx)).trans h.idx, pw_own_below h.own hb, h.low.trans (hb.mono (by have := h.le; omega))⟩
theorem NW.set_ {s : ByteArray} {w : World} {i : Nat} {v : Value} {bs : List Int} {W : World} (h : NW s w i v bs W) (i' : Nat) : NW s w i' v bs (W.setCell ⟨w.heap.size + 1, 0, none⟩ (.int .i64 i')) :=
  ⟨blk_far h.str (by show w.heap.size ≠ w.heap.size + 1; omega) _, blk_set h.idx 0 _, own_setCell h.own (own_ne h.own h.idx (by decide)) _, h.low.setCell (by show w.heap.size ≤ w.heap.size + 1; omega) _⟩
/-- What append leaves. -/
theorem NW.append {s : ByteArray} {w : World} {i : Nat} {v v1 : Value} {bs bs1 : List Int} {W W' : World} (h : NW s w i v bs W) (hown : W'.ownsRow w.heap.size 5 1 v1 bs1.length (nums .u8 bs1)) (hg : W.grownBy W' v.ownBlock) (hb : Below w.heap.size w W') : NW s w i v1 bs1 W' :=
  ⟨blk_grown h.str hg (own_ne h.own h.str (by decide)), blk_grown h.idx hg (own_ne h.own h.idx (by decide)), hown, hb⟩

set_option maxRecDepth 100000 in
set_option maxHeartbeats 4000000 in
theorem at_n {s : ByteArray} {w : World} {i : Nat} {v : Value} {bs : List Int} {W : World} (h : NW s w i v bs W) (hs : s.size ≤ 4294967296) (hi : i ≤ s.size) :
    Calls Tryz.prog 148 #[.pointer (some ⟨w.heap.size + 1, 0, none⟩), .pointer (some ⟨w.heap.size, 0, none⟩)] W fun e w' => e = .returned (.int .u8 (byteAt s i)) ∧ NW s w i v bs w' ∧ Below W.heap.size W w' := by
  have hc := cellAll h.str
  have hc2 := cellAll h.idx
  suffices hq : Calls Tryz.prog 148 #[.pointer (some ⟨w.heap.size + 1, 0, none⟩), .pointer (some ⟨w.heap.size, 0, none⟩)] W fun e w' => e = .returned (.int .u8 (byteAt s i)) ∧ ∃ n, w' = W.drewN n by
    refine hq.mono ?_
    rintro e w' ⟨rfl, n, rfl⟩
    exact ⟨rfl, h.below (pw_below_drewN (Below.refl _ _) n), pw_below_drewN (Below.refl _ _) n⟩
  by_cases hl : i < s.size
  · have hbt : (byteAt s i : Int) = ((s[i]'hl).toNat : Int) := by unfold byteAt; rw [dif_pos hl]
    rw [hbt]
    have hl2 : (i : Int) < (s.size : Int) := by omega
    go_enter Tryz.func148, Tryz.ntmps148
    go_wp2_with fail
    go_ret
    exact ⟨rfl, 0, rfl⟩
  · have hbt : byteAt s i = 0 := by unfold byteAt; rw [dif_neg hl]
    rw [hbt]
    go_enter Tryz.func148, Tryz.ntmps148
    go_wp2_with fail
    go_ret
    exact ⟨rfl, 0, rfl⟩

set_option maxRecDepth 100000 in
set_option maxHeartbeats 4000000 in
theorem isDigit_n (c : Nat) (W : World) : Calls Tryz.prog 149 #[.int .u8 c] W fun e w' => e = .returned (.bool (isDg c)) ∧ w' = W := by
  by_cases h1 : 48 ≤ c
  · have b1 : decide ((48 : Int) ≤ (c : Int)) = true := decide_eq_true (by omega)
    by_cases h2 : c ≤ 57
    · have b2 : decide ((c : Int) ≤ 57) = true := decide_eq_true (by omega)
      have hd : isDg c = true := by unfold isDg; simp; omega
      rw [hd]
      clear h1 h2
      go_enter Tryz.func149, Tryz.ntmps149
      go_wp2_with fail
      go_ret
      exact ⟨rfl, rfl⟩
    · have b2 : decide ((c : Int) ≤ 57) = false := decide_eq_false (by omega)
      have hd : isDg c = false := by unfold isDg; simp; omega
      rw [hd]
      clear h1 h2
      go_enter Tryz.func149, Tryz.ntmps149
      go_wp2_with fail
      go_ret
      exact ⟨rfl, rfl⟩
  · have b1 : decide ((48 : Int) ≤ (c : Int)) = false := decide_eq_false (by omega)
    have hd : isDg c = false := by unfold isDg; simp; omega
    rw [hd]
    clear h1
    go_enter Tryz.func149, Tryz.ntmps149
    go_wp2_with fail
    go_ret
    exact ⟨rfl, rfl⟩

/-! ### the frame -/
/-- What the slots hold that matter. -/
structure NA (w : World) (neg : Bool) (exp sign tens : Int) (v : Value) (a : Act) : Prop where
  defers : a.defers = []
  size : a.tmps.size = 122
  s1 : a.tmps.getD 1 undef = .pointer (some ⟨w.heap.size, 0, none⟩)
  s2 : a.tmps.getD 2 undef = .bool neg
  s4 : a.tmps.getD 4 undef = .int .i64 exp
  s6 : a.tmps.getD 6 undef = v
  s7 : a.tmps.getD 7 undef = .pointer (some ⟨w.heap.size + 1, 0, none⟩)
  s8 : a.tmps.getD 8 undef = .int .i64 sign
  s9 : a.tmps.getD 9 undef = .int .i64 tens
  s10 : a.tmps.getD 10 undef = nClo w
set_option maxRecDepth 100000 in
theorem list122 (l : List Value) (h : l.length = 122) : l = List.ofFn (n := 122) (fun i => l.getD i.val undef) := by
  apply List.ext_getElem
  · rw [List.length_ofFn]; exact h
  · intro i h1 h2
    rw [List.getElem_ofFn]
    simp [List.getD, h1]
set_option maxRecDepth 100000 in
theorem arr122 (u : Nat → Value) : (List.ofFn (n := 122) (fun i => u i.val)).toArray = #[u 0, u 1, u 2, u 3, u 4, u 5, u 6, u 7, u 8, u 9, u 10, u 11, u 12, u 13, u 14, u 15, u 16, u 17, u 18, u 19, u 20, u 21, u 22, u 23, u 24, u 25, u 26, u 27, u 28, u 29, u 30, u 31, u 32, u 33, u 34, u 35, u 36, u 37, u 38, u 39, u 40, u 41, u 42, u 43, u 44, u 45, u 46, u 47, u 48, u 49, u 50, u 51, u 52, u 53, u 54, u 55, u 56, u 57, u 58, u 59, u 60, u 61, u 62, u 63, u 64, u 65, u 66, u 67, u 68, u 69, u 70, u 71, u 72, u 73, u 74, u 75, u 76, u 77, u 78, u 79, u 80, u 81, u 82, u 83, u 84, u 85, u 86, u 87, u 88, u 89, u 90, u 91, u 92, u 93, u 94, u 95, u 96, u 97, u 98, u 99, u 100, u 101, u 102, u 103, u 104, u 105, u 106, u 107, u 108, u 109, u 110, u 111, u 112, u 113, u 114, u 115, u 116, u 117, u 118, u 119, u 120, u 121] := rfl
set_option maxRecDepth 100000 in
theorem NA.open_ {w : World} {neg : Bool} {exp sign tens : Int} {v : Value} {a : Act} (h : NA w neg exp sign tens v a) : ∃ u : Nat → Value, a = { tmps := #[u 0, .pointer (some ⟨w.heap.size, 0, none⟩), .bool neg, u 3, .int .i64 exp, u 5, v, .pointer (some ⟨w.heap.size + 1, 0, none⟩), .int .i64 sign, .int .i64 tens, nClo w, u 11, u 12, u 13, u 14, u 15, u 16, u 17, u 18, u 19, u 20, u 21, u 22, u 23, u 24, u 25, u 26, u 27, u 28, u 29, u 30, u 31, u 32, u 33, u 34, u 35, u 36, u 37, u 38, u 39, u 40, u 41, u 42, u 43, u 44, u 45, u 46, u 47, u 48, u 49, u 50, u 51, u 52, u 53, u 54, u 55, u 56, u 57, u 58, u 59, u 60, u 61, u 62, u 63, u 64, u 65, u 66, u 67, u 68, u 69, u 70, u 71, u 72, u 73, u 74, u 75, u 76, u 77, u 78, u 79, u 80, u 81, u 82, u 83, u 84, u 85, u 86, u 87, u 88, u 89, u 90, u 91, u 92, u 93, u 94, u 95, u 96, u 97, u 98, u 99, u 100, u 101, u 102, u 103, u 104, u 105, u 106, u 107, u 108, u 109, u 110, u 111, u 112, u 113, u 114, u 115, u 116, u 117, u 118, u 119, u 120, u 121], defers := [] } := by
  obtain ⟨t, d⟩ := a
  obtain ⟨h0, hs, h1, h2, h4, h6, h7, h8, h9, h10⟩ := h
  simp only at h0 hs h1 h2 h4 h6 h7 h8 h9 h10
  subst h0
  refine ⟨fun k => t.getD k undef, ?_⟩
  have e0 : t = (List.ofFn (n := 122) (fun i => t.getD i.val undef)).toArray := by
    have hl := list122 t.toList (by simpa using hs)
    apply Array.toList_inj.1
    rw [List.toList_toArray]
    refine hl.trans ?_
    congr 1
    funext i
    simp [Array.getD_eq_getD_getElem?]
  have e := e0.trans (arr122 (fun k => t.getD k undef))
  simp only [h1, h2, h4, h6, h7, h8, h9, h10] at e
  exact congrArg (fun x => ({ tmps := x, defers := [] } : Act)) e
end Go.Proofs.YtkdeleafgailhaaGreatDoor
end
