/- strconv.ParseUint of four bytes at base 16. strconv.ParseUint, the public one, of four bytes at base 16. json's reader: unit. json's reader: escape, but for IndexAny. escape: the surrogates. escape: the pair; the whole. strings.IndexRune in "+-_" of any rune; strings.IndexAny of four bytes with "+-_". -/
import Derived.Test.YtkdeleafgailhaaGreatDoorN11
import Derived.Lib.ConvBytes
import Derived.Lib.Strings
import Derived.Lib.Walk
import Derived.Laws.Strings3
import Derived.Laws.Closers25
import Derived.Laws.Closers25b
import Derived.BigGuard
import Derived.Deep.RegionWith
import Derived.Lib.IfaceEq
import Derived.Laws.Runes
import Derived.WalkMore
section
set_option linter.unusedVariables false
set_option linter.unusedSimpArgs false
namespace Go.Proofs.YtkdeleafgailhaaGreatDoor
open Go Go.RowKit Go.Proofs.YtkdeleafgailhaaGreatDoorW.PrintWords

def lowc (c : UInt8) : Int := Go.bits .or .u8 (c.toNat : Int) 32
def hexOf (c : UInt8) : Option Nat := if 48 ≤ c.toNat ∧ c.toNat ≤ 57 then some (c.toNat - 48) else if 97 ≤ lowc c ∧ lowc c ≤ 102 then some ((lowc c).toNat - 87) else none
def hexL : Nat → List UInt8 → Option Nat
  | acc, [] => some acc
  | acc, c :: l => match hexOf c with | none => none | some d => hexL (acc * 16 + d) l
def uintTup (o : Option Nat) : Value := match o with | some v => .tuple #[.int .u64 v, .nilIface] | none => .tuple #[.int .u64 0, .iface 217 (.int .i64 2)]

theorem lower_any (c : UInt8) (w : World) : Calls Tryz.prog 169 #[.int .u8 (c.toNat : Int)] w fun e w' => e = .returned (.int .u8 (lowc c)) ∧ w' = w := by
  unfold lowc
  go_enter Tryz.func169, Tryz.ntmps169
  go_wp2_with fail
  go_ret
  exact ⟨rfl, rfl⟩

set_option maxRecDepth 100000 in
set_option maxHeartbeats 8000000 in
theorem pu16_in (t : ByteArray) (h4 : t.size = 4) (w : World) :
    Calls Tryz.prog 158 #[.string t, .int .i64 16, .int .i64 32] w fun e w' => e = .returned (uintTup (hexL 0 t.data.toList)) ∧ Below w.heap.size w w' := by
  have hemp : t.toList.isEmpty = false := by have := toList_ne (s := t) (by omega); simpa using this
  have hb := bytes_below (Below.refl w.heap.size w) (Nat.le_refl _) 5 t
  have hcv := Lib.run_convert_string_bytes (P := Tryz.prog) w 9 49 5 t (u := .string) Tryz.underlying9 Tryz.underlying49 Tryz.underlying5
  have hB : ∀ j, j < t.size → (Lib.bytesWorld w 5 t).cell? ⟨w.heap.size, j, none⟩ = some (.int .u8 (t.data.toList.getD j 0).toNat) := fun j hj => Lib.bytesWorld_cell w 5 t j hj
  obtain ⟨W1, hW1⟩ : ∃ W1, W1 = Lib.bytesWorld w 5 t := ⟨_, rfl⟩
  rw [← hW1] at hcv hB hb
  clear hW1
  obtain ⟨bs, hL⟩ : ∃ bs, bs = t.data.toList := ⟨_, rfl⟩
  have hLn : bs.length = t.size := by rw [hL, Array.length_toList]; rfl
  rw [← hL] at hB ⊢
  clear hL
  have hmv : IntKind.u64.wrap (IntKind.u64.wrap 4294967296 - 1) = 4294967295 := by
    rw [IntKind.wrap_u64, IntKind.wrap_u64]
    decide
  have hu16 : IntKind.u8.wrap 16 = 16 := by decide
  go_enter Tryz.func158, Tryz.ntmps158
  go_wp2_with fail
  go_loop [12, 13, 101] (fun vu vn vi => ∃ (k acc : Nat) (a : Int), vu = .bool false ∧ vn = .int .u64 a ∧ vi = .int .i64 k ∧ k ≤ 4 ∧ Aside0 (a = (acc : Int) ∧ (k = 0 → acc = 0) ∧ (k ≤ 1 → acc ≤ 15) ∧ (k ≤ 2 → acc ≤ 255) ∧ (k ≤ 3 → acc ≤ 4095) ∧ acc ≤ 65535 ∧ hexL 0 bs = hexL acc (bs.drop k)))
    (fun _ _ vi => 4 - (intOf vi).toNat)
  case atStart => exact ⟨0, 0, 0, rfl, rfl, rfl, by omega, ⟨rfl, fun _ => rfl, by omega, by omega, by omega, by omega, rfl⟩⟩
  case round =>
    obtain ⟨k, acc, a, rfl, rfl, rfl, hk, hh⟩ := hrel
    obtain ⟨ga, g0, g1, g2, g3, g4, hdec⟩ := hh.out
    clear hh
    by_cases hkn : k < 4
    · have hc := hB k (by omega)
      have hdrop : bs.drop k = bs[k]'(by omega) :: bs.drop (k + 1) := List.drop_eq_getElem_cons (by omega)
      have hget : bs.getD k 0 = bs[k]'(by omega) := by simp [List.getD, List.getElem?_eq_getElem (show k < bs.length by omega)]
      rw [hdrop] at hdec
      rw [hget] at hc
      generalize bs[k]'(by omega) = c at hc hdec
      have hc256 : c.toNat < 256 := c.toNat_lt
      have hacc : acc ≤ 4095 := g3 (by omega)
      have a0 : 0 ≤ a := by omega
      have a1 : a ≤ 4095 := by omega
      have hLow := fun W => lower_any c W
      clear hB hdrop hget
      by_cases hdig : 48 ≤ c.toNat ∧ c.toNat ≤ 57
      · obtain ⟨hd0, hd1⟩ := hdig
        have hF : hexL acc (c :: bs.drop (k + 1)) = hexL (acc * 16 + (c.toNat - 48)) (bs.drop (k + 1)) := by rw [hexL]; unfold hexOf; rw [if_pos ⟨hd0, hd1⟩]
        have iov : a * 16 + ((c.toNat : Int) - 48) ≤ 65535 := by omega
        have HN : Aside0 (a * 16 + ((c.toNat : Int) - 48) = ((acc * 16 + (c.toNat - 48) : Nat) : Int) ∧ (k + 1 = 0 → acc * 16 + (c.toNat - 48) = 0) ∧ (k + 1 ≤ 1 → acc * 16 + (c.toNat - 48) ≤ 15) ∧ (k + 1 ≤ 2 → acc * 16 + (c.toNat - 48) ≤ 255) ∧ (k + 1 ≤ 3 → acc * 16 + (c.toNat - 48) ≤ 4095) ∧ acc * 16 + (c.toNat - 48) ≤ 65535 ∧ hexL 0 bs = hexL (acc * 16 + (c.toNat - 48)) (bs.drop (k + 1))) := ⟨by omega, by omega, by omega, by omega, by omega, by omega, hdec.trans hF⟩
        clear hdec hF g0 g1 g2 g3 g4 ga hacc
        go_wp2_with fail
        refine ⟨⟨k + 1, acc * 16 + (c.toNat - 48), a * 16 + ((c.toNat : Int) - 48), rfl, (by first | rfl | (congr 1; omega)), (by first | rfl | (congr 1; omega)), by omega, HN⟩, by simp [intOf]; omega⟩
      · have hl0 : 0 ≤ lowc c := bits_lo_u8 .or (c.toNat : Int) 32
        have hl1 : lowc c ≤ 255 := bits_hi_u8 .or (c.toNat : Int) 32
        have hne : hexOf c = if 97 ≤ lowc c ∧ lowc c ≤ 102 then some ((lowc c).toNat - 87) else none := by unfold hexOf; rw [if_neg hdig]
        by_cases h95 : c.toNat = 95
        · have hl : lowc c = 127 := by unfold lowc; rw [h95]; decide
          rw [hl, if_neg (by omega)] at hne
          have hF : hexL acc (c :: bs.drop (k + 1)) = none := by rw [hexL, hne]
          rw [hF] at hdec
          rw [hl] at hLow
          rw [h95] at hc hLow
          clear hF g0 g1 g2 g3 g4 ga hacc hne hl0 hl1 hl
          replace hdec := Aside0.mk hdec
          go_wp2_with (go_at_call 169; refine (hLow _).mono ?_; rintro e w' ⟨rfl, rfl⟩)
          all_goals go_ret2
          all_goals exact ⟨by rw [hdec.out]; rfl, hb⟩
        · have b95 : ((c.toNat : Int) == 95) = false := by simp; omega
          by_cases hx : 97 ≤ lowc c ∧ lowc c ≤ 102
          · rw [if_pos hx] at hne
            have hF : hexL acc (c :: bs.drop (k + 1)) = hexL (acc * 16 + ((lowc c).toNat - 87)) (bs.drop (k + 1)) := by rw [hexL, hne]
            obtain ⟨hx0, hx1⟩ := hx
            generalize lowc c = l at *
            have HN : Aside0 (a * 16 + (l - 87) = ((acc * 16 + (l.toNat - 87) : Nat) : Int) ∧ (k + 1 = 0 → acc * 16 + (l.toNat - 87) = 0) ∧ (k + 1 ≤ 1 → acc * 16 + (l.toNat - 87) ≤ 15) ∧ (k + 1 ≤ 2 → acc * 16 + (l.toNat - 87) ≤ 255) ∧ (k + 1 ≤ 3 → acc * 16 + (l.toNat - 87) ≤ 4095) ∧ acc * 16 + (l.toNat - 87) ≤ 65535 ∧ hexL 0 bs = hexL (acc * 16 + (l.toNat - 87)) (bs.drop (k + 1))) := ⟨by omega, by omega, by omega, by omega, by omega, by omega, hdec.trans hF⟩
            have iov : a * 16 + (l - 87) ≤ 65535 := by omega
            clear hdec hF g0 g1 g2 g3 g4 ga hacc hne
            go_wp2_with (go_at_call 169; refine (hLow _).mono ?_; rintro e w' ⟨rfl, rfl⟩)
            all_goals refine ⟨⟨k + 1, acc * 16 + (l.toNat - 87), a * 16 + (l - 87), rfl, (by first | rfl | (congr 1; omega)), (by first | rfl | (congr 1; omega)), by omega, HN⟩, by simp [intOf]; omega⟩
          · rw [if_neg hx] at hne
            have hF : hexL acc (c :: bs.drop (k + 1)) = none := by rw [hexL, hne]
            rw [hF] at hdec
            generalize lowc c = l at *
            clear hF g0 g1 g2 g3 g4 ga hacc hne
            replace hdec := Aside0.mk hdec
            go_wp2_with (go_at_call 169; refine (hLow _).mono ?_; rintro e w' ⟨rfl, rfl⟩)
            all_goals go_ret2
            all_goals exact ⟨by rw [hdec.out]; rfl, hb⟩
    · have hkk : k = 4 := by omega
      subst hkk
      have hF : hexL acc (bs.drop 4) = some acc := by rw [List.drop_eq_nil_of_le (by omega)]; rfl
      rw [hF] at hdec
      go_wp2_with fail
      go_ret2
      first | exact ⟨rfl, hb⟩ | exact ⟨by rw [hdec]; rfl, hb⟩ | exact ⟨by rw [hdec, ga]; rfl, hb⟩
end Go.Proofs.YtkdeleafgailhaaGreatDoor
end
section
set_option linter.unusedVariables false
set_option linter.unusedSimpArgs false
namespace Go.Proofs.YtkdeleafgailhaaGreatDoor
open Go Go.RowKit Go.Proofs.YtkdeleafgailhaaGreatDoorW.PrintWords

set_option maxRecDepth 100000 in
set_option maxHeartbeats 4000000 in
theorem syntaxError_any (fn s : ByteArray) (w : World) (hs : s.size ≤ 281474976710656) (ev : Value) (T : TypeId) (p : Value) (hv : w.cell? ⟨14, 0, none⟩ = some (.iface T p)) :
    Calls Tryz.prog 171 #[.string fn, .string s] w fun e w' => ∃ k, e = .returned (.pointer (some ⟨k, 0, none⟩)) ∧ Below w.heap.size w w' := by
  go_enter Tryz.func171, Tryz.ntmps171
  go_wp2_with fail
  go_region_with (go_at_call 126; refine (Tryz.stringslite_Clone s _ hs).mono ?_; rintro e w1 ⟨rfl, hb1⟩; have hb2 : Below w.heap.size w w1 := ⟨hb1.os, hb1.tape, hb1.output, hb1.size, hb1.block⟩; have hv1 := pw_cell_below hb2 hv)
  all_goals (go_wp2_with fail)
  all_goals go_ret
  all_goals exact ⟨w1.heap.size, by simp [Act.put, go_sem], hb2.alloc hb2.size _⟩

set_option maxRecDepth 100000 in
set_option maxHeartbeats 4000000 in
theorem toError_any (fn s : ByteArray) (b1 b2 : Int) (w : World) (hs : s.size ≤ 281474976710656) (T : TypeId) (p : Value) (hv : w.cell? ⟨14, 0, none⟩ = some (.iface T p)) :
    Calls Tryz.prog 159 #[.string fn, .string s, .int .i64 b1, .int .i64 b2, .iface 217 (.int .i64 2)] w fun e w' => ∃ k, e = .returned (.iface 219 (.pointer (some ⟨k, 0, none⟩))) ∧ Below w.heap.size w w' := by
  have cS := syntaxError_any fn s w hs (.iface T p) T p hv
  have heq : ∀ W, (binOp .eql 51 (.iface 217 (.int .i64 2)) (.iface 217 (.int .i64 2))).run Tryz.prog W = .ok (.bool true) W := fun W => Lib.run_eql_iface_int W 2 2 Tryz.underlying51 (by kernel_rfl) Tryz.underlying217
  go_enter Tryz.func159, Tryz.ntmps159
  go_wp2_with (go_at_call 171; refine cS.mono ?_; rintro e w1 ⟨k, rfl, hb⟩)
  go_ret
  exact ⟨k, rfl, hb⟩

/-- What ParseUint gives of four bytes at base 16. -/
def PuGives (o : Option Nat) (e : Ending) : Prop := match o with | some v => e = .returned (.tuple #[.int .u64 v, .nilIface]) | none => ∃ k, e = .returned (.tuple #[.int .u64 0, .iface 219 (.pointer (some ⟨k, 0, none⟩))])
set_option maxRecDepth 100000 in
set_option maxHeartbeats 4000000 in
theorem pu16_any (t : ByteArray) (h4 : t.size = 4) (w : World) (T : TypeId) (p : Value) (hv : w.cell? ⟨14, 0, none⟩ = some (.iface T p)) :
    Calls Tryz.prog 147 #[.string t, .int .i64 16, .int .i64 32] w fun e w' => PuGives (hexL 0 t.data.toList) e ∧ Below w.heap.size w w' := by
  have cP := pu16_in t h4 w
  have hgl := World.block_lt_of_cell? w _ hv
  generalize hexL 0 t.data.toList = o at cP ⊢
  cases o with
  | some v =>
    unfold uintTup at cP
    unfold PuGives
    simp only at cP ⊢
    go_enter Tryz.func147, Tryz.ntmps147
    go_wp2_with (go_at_call 158; refine cP.mono ?_; rintro e w1 ⟨rfl, hb⟩)
    go_ret2
    exact ⟨rfl, hb⟩
  | none =>
    unfold uintTup at cP
    unfold PuGives
    simp only at cP ⊢
    go_enter Tryz.func147, Tryz.ntmps147
    go_wp2_with (first
      | (go_at_call 159; refine (toError_any _ t _ _ _ (by omega) T p hv1).mono ?_; rintro e w2 ⟨k, rfl, hb2⟩)
      | (go_at_call 158; refine cP.mono ?_; rintro e w1 ⟨rfl, hb⟩; have hv1 := pw_cell_below hb hv))
    go_ret2
    exact ⟨⟨k, rfl⟩, hb.trans (hb2.mono hb.size)⟩
end Go.Proofs.YtkdeleafgailhaaGreatDoor
end
section
set_option linter.unusedVariables false
set_option linter.unusedSimpArgs false
namespace Go.Proofs.YtkdeleafgailhaaGreatDoor
open Go Go.RowKit Go.Proofs.YtkdeleafgailhaaGreatDoorW.PrintWords

/-- What is asked of strings.IndexAny(.., "+-_"): to be proved. -/
def AnyOK : Prop := ∀ (s : ByteArray) (w : World), s.size = 4 → Calls Tryz.prog 146 #[.string s, .string ⟨#[43, 45, 95]⟩] w fun e w' => ∃ q : Int, e = .returned (.int .i64 q) ∧ (0 ≤ q → hexL 0 s.data.toList = none) ∧ Below w.heap.size w w'
/-- The number of an escape of six bytes at a place, and whether there is one. -/
def unitAt (s : ByteArray) (i : Nat) : Nat × Bool :=
  if s.size < i + 6 then (0, false) else if s.extract i (i + 2) = ⟨#[92, 117]⟩ then (match hexL 0 (s.extract (i + 2) (i + 6)).data.toList with | some v => (v, true) | none => (0, false)) else (0, false)

theorem hexOf_lt {c : UInt8} {d : Nat} (h : hexOf c = some d) : d < 16 := by
  unfold hexOf at h
  split at h
  · injection h with h; omega
  · split at h
    · injection h with h; omega
    · cases h
theorem hexL_lt : ∀ (l : List UInt8) (acc v : Nat), hexL acc l = some v → v < (acc + 1) * 16 ^ l.length
  | [], acc, v, h => by rw [hexL] at h; injection h with h; simp; omega
  | c :: l, acc, v, h => by
    rw [hexL] at h
    cases hc : hexOf c with
    | none => rw [hc] at h; cases h
    | some d =>
      rw [hc] at h
      have h1 := hexL_lt l _ _ h
      have h2 := hexOf_lt hc
      refine Nat.lt_of_lt_of_le h1 ?_
      rw [List.length_cons, Nat.pow_succ, Nat.mul_comm (16 ^ l.length) 16, ← Nat.mul_assoc]
      exact Nat.mul_le_mul_right _ (by omega)
theorem slash_u : (⟨#[92, 117]⟩ : ByteArray).toList = [92, 117] := by rw [toList_eq]
set_option maxRecDepth 100000 in
set_option maxHeartbeats 4000000 in
theorem unit_short {E : ErrV} {w0 : World} {s : ByteArray} {i o r : Nat} {w : World} (h : RS E w0 s i o r w) (j : Nat) (hj : s.size < j + 6) (hj2 : j ≤ 4294967296) :
    Calls Tryz.prog 132 #[.pointer (some ⟨r, 0, none⟩), .int .i64 j] w fun e w' => e = .returned (.tuple #[.int .i32 0, .bool false]) ∧ w' = w := by
  have hc := cellAll h.rd
  have hsz := h.size
  go_enter Tryz.func132, Tryz.ntmps132
  go_wp2_with fail
  go_ret2
  exact ⟨rfl, rfl⟩
set_option maxRecDepth 100000 in
set_option maxHeartbeats 4000000 in
theorem unit_not {E : ErrV} {w0 : World} {s : ByteArray} {i o r : Nat} {w : World} (h : RS E w0 s i o r w) (j : Nat) (hj : j + 6 ≤ s.size) (hne : ¬ s.extract j (j + 2) = ⟨#[92, 117]⟩) :
    Calls Tryz.prog 132 #[.pointer (some ⟨r, 0, none⟩), .int .i64 j] w fun e w' => e = .returned (.tuple #[.int .i32 0, .bool false]) ∧ w' = w := by
  have hc := cellAll h.rd
  have hsz := h.size
  have hb1 : ((s.extract j (j + 2)).toList == [92, 117]) = false := by have := bytes_beq (s.extract j (j + 2)) ⟨#[92, 117]⟩; rw [decide_eq_false hne, slash_u] at this; exact this
  have hd : decide ((s.size : Int) < (j : Int) + 6) = false := by simp; omega
  go_enter Tryz.func132, Tryz.ntmps132
  go_wp2_with fail
  go_ret2
  exact ⟨rfl, rfl⟩
set_option maxRecDepth 100000 in
set_option maxHeartbeats 4000000 in
theorem unit_hex {E : ErrV} {w0 : World} {s : ByteArray} {i o r : Nat} {w : World} (hA : AnyOK) (h : RS E w0 s i o r w) (T : TypeId) (p : Value) (hv : w0.cell? ⟨14, 0, none⟩ = some (.iface T p)) (j : Nat) (hj : j + 6 ≤ s.size) (heq : s.extract j (j + 2) = ⟨#[92, 117]⟩) (res : Nat × Bool) (hres : res = match hexL 0 (s.extract (j + 2) (j + 6)).data.toList with | some v => (v, true) | none => (0, false)) :
    Calls Tryz.prog 132 #[.pointer (some ⟨r, 0, none⟩), .int .i64 j] w fun e w' => e = .returned (.tuple #[.int .i32 res.1, .bool res.2]) ∧ RS E w0 s i o r w' ∧ Below w.heap.size w w' := by
  have hc := cellAll h.rd
  have hsz := h.size
  have hb1 : ((s.extract j (j + 2)).toList == [92, 117]) = true := by have := bytes_beq (s.extract j (j + 2)) ⟨#[92, 117]⟩; rw [decide_eq_true heq, slash_u] at this; exact this
  have hd : decide ((s.size : Int) < (j : Int) + 6) = false := by simp; omega
  have hx4 : (s.extract (j + 2) (j + 6)).size = 4 := by rw [ByteArray.size_extract]; omega
  have cA := hA (s.extract (j + 2) (j + 6)) w hx4
  have cP := fun W hv => pu16_any (s.extract (j + 2) (j + 6)) hx4 W T p hv
  have hvw := pw_cell_below h.low hv
  have hv65 : ∀ v, hexL 0 (s.extract (j + 2) (j + 6)).data.toList = some v → v ≤ 65535 := fun v hv => by
    have := hexL_lt _ _ _ hv
    have hl : (s.extract (j + 2) (j + 6)).data.toList.length = 4 := by rw [Array.length_toList]; exact hx4
    rw [hl] at this
    omega
  generalize hexL 0 (s.extract (j + 2) (j + 6)).data.toList = hx at cA cP hres hv65
  replace heq := Aside0.mk heq
  cases hx with
  | none =>
    subst hres
    go_enter Tryz.func132, Tryz.ntmps132
    go_wp2_with (first
      | (go_at_call 147; refine (cP _ (pw_cell_below hb hvw)).mono ?_; rintro e w2 ⟨⟨k, rfl⟩, hb2⟩)
      | (go_at_call 146; refine cA.mono ?_; rintro e w1 ⟨q, rfl, hq, hb⟩))
    · go_ret2
      exact ⟨rfl, h.below hb, hb⟩
    · go_quiet (fail)
      go_wp2_with fail
      go_ret2
      have hb3 := pw_below_drewN (hb.trans (hb2.mono hb.size)) nq
      exact ⟨rfl, h.below hb3, hb3⟩
  | some v =>
    subst hres
    have hv1 := hv65 v rfl
    go_enter Tryz.func132, Tryz.ntmps132
    go_wp2_with (first
      | (go_at_call 147; refine (cP _ (pw_cell_below hb hvw)).mono ?_; rintro e w2 ⟨rfl, hb2⟩)
      | (go_at_call 146; refine cA.mono ?_; rintro e w1 ⟨q, rfl, hq, hb⟩; have hq1 : ¬ 0 ≤ q := fun h0 => by cases hq h0))
    go_quiet (fail)
    go_wp2_with fail
    go_ret2
    have hb3 := pw_below_drewN (hb.trans (hb2.mono hb.size)) nq
    exact ⟨rfl, h.below hb3, hb3⟩
/-- **unit**, but for IndexAny. -/
theorem unit_any {E : ErrV} {w0 : World} {s : ByteArray} {i o r : Nat} {w : World} (hA : AnyOK) (h : RS E w0 s i o r w) (T : TypeId) (p : Value) (hv : w0.cell? ⟨14, 0, none⟩ = some (.iface T p)) (j : Nat) (hj : j ≤ 4294967296) :
    Calls Tryz.prog 132 #[.pointer (some ⟨r, 0, none⟩), .int .i64 j] w fun e w' => e = .returned (.tuple #[.int .i32 (unitAt s j).1, .bool (unitAt s j).2]) ∧ RS E w0 s i o r w' ∧ Below w.heap.size w w' := by
  unfold unitAt
  by_cases h1 : s.size < j + 6
  · rw [if_pos h1]
    refine (unit_short h j h1 hj).mono ?_
    rintro e w' ⟨rfl, rfl⟩
    exact ⟨rfl, h, Below.refl _ _⟩
  · rw [if_neg h1]
    by_cases h2 : s.extract j (j + 2) = ⟨#[92, 117]⟩
    · rw [if_pos h2]
      exact unit_hex hA h T p hv j (by omega) h2 _ rfl
    · rw [if_neg h2]
      refine (unit_not h j (by omega) h2).mono ?_
      rintro e w' ⟨rfl, rfl⟩
      exact ⟨rfl, h, Below.refl _ _⟩
end Go.Proofs.YtkdeleafgailhaaGreatDoor
end
section
set_option linter.unusedVariables false
set_option linter.unusedSimpArgs false
namespace Go.Proofs.YtkdeleafgailhaaGreatDoor
open Go Go.RowKit Go.Proofs.YtkdeleafgailhaaGreatDoorW.PrintWords

/-- The letter that a short escape says. -/
def shortEsc (b : Nat) : Option Nat :=
  if b = 34 then some 34 else if b = 92 then some 92 else if b = 47 then some 47 else if b = 98 then some 8 else if b = 102 then some 12 else if b = 110 then some 10 else if b = 114 then some 13 else if b = 116 then some 9 else none
/-- The letter of an escape, and how many bytes it has; 0: none. -/
def escAt (s : ByteArray) (i : Nat) : Nat × Nat :=
  if s.size ≤ i + 1 then (0, 0)
  else match shortEsc (byteAt s (i + 1)) with
    | some v => (v, 2)
    | none =>
      if (unitAt s i).2 = false then (0, 0)
      else if (unitAt s i).1 < 55296 ∨ 57344 ≤ (unitAt s i).1 then ((unitAt s i).1, 6)
      else if (unitAt s i).1 < 56320 ∧ 56320 ≤ (unitAt s (i + 6)).1 ∧ (unitAt s (i + 6)).1 < 57344 then (((unitAt s i).1 - 55296) * 1024 + ((unitAt s (i + 6)).1 - 56320) + 65536, 12)
      else (0, 0)
def escTab : List UInt8 := [34, 92, 47, 98, 102, 110, 114, 116]
set_option maxRecDepth 100000 in
theorem esc_index (u : UInt8) : (match shortEsc u.toNat with | none => decide (Lib.indexByte escTab u = -1) | some v => decide (0 ≤ Lib.indexByte escTab u ∧ Lib.indexByte escTab u < 8 ∧ ([34, 92, 47, 8, 12, 10, 13, 9] : List Nat)[(Lib.indexByte escTab u).toNat]? = some v)) = true := by
  have key : ∀ n : Fin 256, (match shortEsc n.val with | none => decide (Lib.indexByte escTab (UInt8.ofNat n.val) = -1) | some v => decide (0 ≤ Lib.indexByte escTab (UInt8.ofNat n.val) ∧ Lib.indexByte escTab (UInt8.ofNat n.val) < 8 ∧ ([34, 92, 47, 8, 12, 10, 13, 9] : List Nat)[(Lib.indexByte escTab (UInt8.ofNat n.val)).toNat]? = some v)) = true := by decide
  have := key ⟨u.toNat, u.toNat_lt⟩
  simpa using this

theorem esc_letter (n : Nat) (hn : n < 8) (v : Nat) (h : ([34, 92, 47, 8, 12, 10, 13, 9] : List Nat)[n]? = some v) : ∀ hh : n < (⟨#[34, 92, 47, 8, 12, 10, 13, 9]⟩ : ByteArray).size, wrap32 (((⟨#[34, 92, 47, 8, 12, 10, 13, 9]⟩ : ByteArray)[n]'hh).toNat : Int) = (v : Int) := by
  intro hh
  match n, hn with
  | 0, _ => injection h with h; subst h; show wrap32 (34 : Int) = (34 : Int); unfold wrap32; omega
  | 1, _ => injection h with h; subst h; show wrap32 (92 : Int) = (92 : Int); unfold wrap32; omega
  | 2, _ => injection h with h; subst h; show wrap32 (47 : Int) = (47 : Int); unfold wrap32; omega
  | 3, _ => injection h with h; subst h; show wrap32 (8 : Int) = (8 : Int); unfold wrap32; omega
  | 4, _ => injection h with h; subst h; show wrap32 (12 : Int) = (12 : Int); unfold wrap32; omega
  | 5, _ => injection h with h; subst h; show wrap32 (10 : Int) = (10 : Int); unfold wrap32; omega
  | 6, _ => injection h with h; subst h; show wrap32 (13 : Int) = (13 : Int); unfold wrap32; omega
  | 7, _ => injection h with h; subst h; show wrap32 (9 : Int) = (9 : Int); unfold wrap32; omega

set_option maxRecDepth 100000 in
set_option maxHeartbeats 4000000 in
theorem esc_none {E : ErrV} {w0 : World} {s : ByteArray} {i o r : Nat} {w : World} (h : RS E w0 s i o r w) (hi : s.size ≤ i + 1) :
    Calls Tryz.prog 110 #[.pointer (some ⟨r, 0, none⟩)] w fun e w' => e = .returned (.tuple #[.int .i32 0, .int .i64 0]) ∧ RS E w0 s i o r w' ∧ Below w.heap.size w w' := by
  have hc := cellAll h.rd
  have hsz := h.size
  have hil := h.at_le
  go_enter Tryz.func110, Tryz.ntmps110
  go_wp2_with fail
  go_quiet (fail)
  go_wp2_with fail
  go_ret2
  have hb := pw_below_drewN (Below.refl w.heap.size w) nq
  exact ⟨rfl, h.below hb, hb⟩

set_option maxRecDepth 100000 in
set_option maxHeartbeats 4000000 in
theorem esc_short {E : ErrV} {w0 : World} {s : ByteArray} {i o r : Nat} {w : World} (h : RS E w0 s i o r w) (hi : i + 1 < s.size) (v : Nat) (hv : shortEsc (byteAt s (i + 1)) = some v) :
    Calls Tryz.prog 110 #[.pointer (some ⟨r, 0, none⟩)] w fun e w' => e = .returned (.tuple #[.int .i32 v, .int .i64 2]) ∧ RS E w0 s i o r w' ∧ Below w.heap.size w w' := by
  have hc := cellAll h.rd
  have hsz := h.size
  have hil := h.at_le
  have hx := esc_index (s[i + 1]'hi)
  have hbt : (s[i + 1]'hi).toNat = byteAt s (i + 1) := by unfold byteAt; rw [dif_pos hi]
  rw [hbt, hv] at hx
  simp only [decide_eq_true_eq] at hx
  have hIB := fun W => Tryz.strings_IndexByte ⟨#[34, 92, 47, 98, 102, 110, 114, 116]⟩ ((s[i + 1]'hi).toNat : Int) W
  have hub : (((s[i + 1]'hi).toNat : Int).toNat).toUInt8 = s[i + 1]'hi := by simp
  have hlist : (⟨#[34, 92, 47, 98, 102, 110, 114, 116]⟩ : ByteArray).data.toList = escTab := rfl
  rw [hub, hlist] at hIB
  generalize Lib.indexByte escTab (s[i + 1]'hi) = q at hx hIB
  obtain ⟨hq0, hq8, hqv⟩ := hx
  have hIQ : ∀ W, Calls Tryz.prog 80 #[.string ⟨#[34, 92, 47, 98, 102, 110, 114, 116]⟩, .int .u8 ((s[i + 1]'hi).toNat : Int)] W fun e w' => e = .returned (.int .i64 q) ∧ ∃ n, w' = W.drewN n := fun W => (hIB W).mono (fun e w' h => ⟨h.1, 0, h.2⟩)
  clear hIB hub hlist hbt hv
  have hi2 : (i : Int) + 1 < (s.size : Int) := by omega
  have hi0 : (0 : Int) ≤ (i : Int) + 1 := by omega
  have hw1 : IntKind.i64.wrap ((i : Int) + 1) = (i : Int) + 1 := by rw [IntKind.wrap_i64]; omega
  go_enter Tryz.func110, Tryz.ntmps110
  go_wp2_with fail
  go_quiet (fail)
  have hB2 := pw_below_drewN (Below.refl w.heap.size w) nq
  have h2 := h.below hB2
  have hc2 := cellAll h2.rd
  generalize w.drewN nq = w2 at *
  clear nq hc
  go_wp2_with fail
  go_quiet ((go_at_call 80; exact Calls.quiet_of (hIQ _)))
  go_wp2_with fail
  go_ret2
  have hb := pw_below_drewN (Below.refl w2.heap.size w2) nq
  refine ⟨?_, h2.below hb, hB2.trans (hb.mono hB2.size)⟩
  have hl := esc_letter q.toNat (by omega) v hqv (by show q.toNat < 8; omega)
  simp only [Array.getD_eq_getD_getElem?]
  rw [← hl]
  rfl

theorem unitAt_le (s : ByteArray) (i : Nat) : (unitAt s i).1 ≤ 65535 := by
  unfold unitAt
  split
  · exact Nat.zero_le _
  · split
    · cases hh : hexL 0 (s.extract (i + 2) (i + 6)).data.toList with
      | none => exact Nat.zero_le _
      | some v =>
        have := hexL_lt _ _ _ hh
        have hl : (s.extract (i + 2) (i + 6)).data.toList.length = 4 := by
          rw [Array.length_toList]
          show (s.extract (i + 2) (i + 6)).size = 4
          rw [ByteArray.size_extract]; omega
        rw [hl] at this
        show v ≤ 65535
        omega
    · exact Nat.zero_le _

set_option maxRecDepth 100000 in
set_option maxHeartbeats 4000000 in
theorem esc_unit {E : ErrV} {w0 : World} {s : ByteArray} {i o r : Nat} {w : World} (hA : AnyOK) (h : RS E w0 s i o r w) (T : TypeId) (p : Value) (hv : w0.cell? ⟨14, 0, none⟩ = some (.iface T p)) (hi : i + 1 < s.size) (hs : shortEsc (byteAt s (i + 1)) = none) (h2 : (unitAt s i).2 = false) :
    Calls Tryz.prog 110 #[.pointer (some ⟨r, 0, none⟩)] w fun e w' => e = .returned (.tuple #[.int .i32 0, .int .i64 0]) ∧ RS E w0 s i o r w' ∧ Below w.heap.size w w' := by
  have hc := cellAll h.rd
  have hsz := h.size
  have hil := h.at_le
  have hx := esc_index (s[i + 1]'hi)
  have hbt : (s[i + 1]'hi).toNat = byteAt s (i + 1) := by unfold byteAt; rw [dif_pos hi]
  rw [hbt, hs] at hx
  simp only [decide_eq_true_eq] at hx
  have hIB := fun W => Tryz.strings_IndexByte ⟨#[34, 92, 47, 98, 102, 110, 114, 116]⟩ ((s[i + 1]'hi).toNat : Int) W
  have hub : (((s[i + 1]'hi).toNat : Int).toNat).toUInt8 = s[i + 1]'hi := by simp
  have hlist : (⟨#[34, 92, 47, 98, 102, 110, 114, 116]⟩ : ByteArray).data.toList = escTab := rfl
  rw [hub, hlist, hx] at hIB
  have hIQ : ∀ W, Calls Tryz.prog 80 #[.string ⟨#[34, 92, 47, 98, 102, 110, 114, 116]⟩, .int .u8 ((s[i + 1]'hi).toNat : Int)] W fun e w' => e = .returned (.int .i64 (-1)) ∧ ∃ n, w' = W.drewN n := fun W => (hIB W).mono (fun e w' h => ⟨h.1, 0, h.2⟩)
  clear hIB hub hlist hbt hs hx
  have hi2 : (i : Int) + 1 < (s.size : Int) := by omega
  have hi0 : (0 : Int) ≤ (i : Int) + 1 := by omega
  have hw1 : IntKind.i64.wrap ((i : Int) + 1) = (i : Int) + 1 := by rw [IntKind.wrap_i64]; omega
  have cU := fun (W : World) (hR : RS E w0 s i o r W) => unit_any hA hR T p hv i (by omega)
  generalize (unitAt s i).1 = u1 at *
  generalize (unitAt s i).2 = u2 at *
  subst h2
  go_enter Tryz.func110, Tryz.ntmps110
  go_wp2_with fail
  go_quiet (fail)
  have hB2 := pw_below_drewN (Below.refl w.heap.size w) nq
  have h2 := h.below hB2
  have hc2 := cellAll h2.rd
  generalize w.drewN nq = w2 at *
  clear nq hc
  go_wp2_with fail
  go_quiet ((go_at_call 80; exact Calls.quiet_of (hIQ _)))
  have hB3 := hB2.trans (pw_below_drewN (Below.refl w2.heap.size w2) nq |>.mono hB2.size)
  have h3 := h2.below (pw_below_drewN (Below.refl w2.heap.size w2) nq)
  have hc3 := cellAll h3.rd
  generalize w2.drewN nq = w3 at *
  clear nq hc2
  go_wp2_with (go_at_call 132; refine (cU _ h3).mono ?_; rintro e w4 ⟨rfl, h4, hb4⟩)
  go_ret2
  exact ⟨rfl, h4, hB3.trans (hb4.mono hB3.size)⟩

set_option maxRecDepth 100000 in
set_option maxHeartbeats 4000000 in
theorem esc_plain {E : ErrV} {w0 : World} {s : ByteArray} {i o r : Nat} {w : World} (hA : AnyOK) (h : RS E w0 s i o r w) (T : TypeId) (p : Value) (hv : w0.cell? ⟨14, 0, none⟩ = some (.iface T p)) (hi : i + 1 < s.size) (hs : shortEsc (byteAt s (i + 1)) = none) (h2 : (unitAt s i).2 = true) (hpl : (unitAt s i).1 < 55296 ∨ 57344 ≤ (unitAt s i).1) :
    Calls Tryz.prog 110 #[.pointer (some ⟨r, 0, none⟩)] w fun e w' => e = .returned (.tuple #[.int .i32 (unitAt s i).1, .int .i64 6]) ∧ RS E w0 s i o r w' ∧ Below w.heap.size w w' := by
  have hc := cellAll h.rd
  have hsz := h.size
  have hil := h.at_le
  have hx := esc_index (s[i + 1]'hi)
  have hbt : (s[i + 1]'hi).toNat = byteAt s (i + 1) := by unfold byteAt; rw [dif_pos hi]
  rw [hbt, hs] at hx
  simp only [decide_eq_true_eq] at hx
  have hIB := fun W => Tryz.strings_IndexByte ⟨#[34, 92, 47, 98, 102, 110, 114, 116]⟩ ((s[i + 1]'hi).toNat : Int) W
  have hub : (((s[i + 1]'hi).toNat : Int).toNat).toUInt8 = s[i + 1]'hi := by simp
  have hlist : (⟨#[34, 92, 47, 98, 102, 110, 114, 116]⟩ : ByteArray).data.toList = escTab := rfl
  rw [hub, hlist, hx] at hIB
  have hIQ : ∀ W, Calls Tryz.prog 80 #[.string ⟨#[34, 92, 47, 98, 102, 110, 114, 116]⟩, .int .u8 ((s[i + 1]'hi).toNat : Int)] W fun e w' => e = .returned (.int .i64 (-1)) ∧ ∃ n, w' = W.drewN n := fun W => (hIB W).mono (fun e w' h => ⟨h.1, 0, h.2⟩)
  clear hIB hub hlist hbt hs hx
  have hi2 : (i : Int) + 1 < (s.size : Int) := by omega
  have hi0 : (0 : Int) ≤ (i : Int) + 1 := by omega
  have hw1 : IntKind.i64.wrap ((i : Int) + 1) = (i : Int) + 1 := by rw [IntKind.wrap_i64]; omega
  have cU := fun (W : World) (hR : RS E w0 s i o r W) => unit_any hA hR T p hv i (by omega)
  have hu16 := unitAt_le s i
  generalize (unitAt s i).1 = u1 at *
  generalize (unitAt s i).2 = u2 at *
  subst h2
  go_enter Tryz.func110, Tryz.ntmps110
  go_wp2_with fail
  go_quiet (fail)
  have hB2 := pw_below_drewN (Below.refl w.heap.size w) nq
  have h2 := h.below hB2
  have hc2 := cellAll h2.rd
  generalize w.drewN nq = w2 at *
  clear nq hc
  go_wp2_with fail
  go_quiet ((go_at_call 80; exact Calls.quiet_of (hIQ _)))
  have hB3 := hB2.trans (pw_below_drewN (Below.refl w2.heap.size w2) nq |>.mono hB2.size)
  have h3 := h2.below (pw_below_drewN (Below.refl w2.heap.size w2) nq)
  have hc3 := cellAll h3.rd
  generalize w2.drewN nq = w3 at *
  clear nq hc2
  rcases hpl with hpl | hpl
  · go_wp2_with (go_at_call 132; refine (cU _ h3).mono ?_; rintro e w4 ⟨rfl, h4, hb4⟩)
    go_ret2
    exact ⟨rfl, h4, hB3.trans (hb4.mono hB3.size)⟩
  · go_wp2_with (go_at_call 132; refine (cU _ h3).mono ?_; rintro e w4 ⟨rfl, h4, hb4⟩)
    go_ret2
    exact ⟨rfl, h4, hB3.trans (hb4.mono hB3.size)⟩

end Go.Proofs.YtkdeleafgailhaaGreatDoor
end
section
set_option linter.unusedVariables false
set_option linter.unusedSimpArgs false
namespace Go.Proofs.YtkdeleafgailhaaGreatDoor
open Go Go.RowKit Go.Proofs.YtkdeleafgailhaaGreatDoorW.PrintWords

set_option maxRecDepth 100000 in
set_option maxHeartbeats 4000000 in
theorem esc_lone {E : ErrV} {w0 : World} {s : ByteArray} {i o r : Nat} {w : World} (hA : AnyOK) (h : RS E w0 s i o r w) (T : TypeId) (p : Value) (hv : w0.cell? ⟨14, 0, none⟩ = some (.iface T p)) (hi : i + 1 < s.size) (hs : shortEsc (byteAt s (i + 1)) = none) (h2 : (unitAt s i).2 = true) (hp0 : 55296 ≤ (unitAt s i).1) (hp1 : (unitAt s i).1 < 57344) (hno : ¬ ((unitAt s i).1 < 56320 ∧ 56320 ≤ (unitAt s (i + 6)).1 ∧ (unitAt s (i + 6)).1 < 57344)) :
    Calls Tryz.prog 110 #[.pointer (some ⟨r, 0, none⟩)] w fun e w' => e = .returned (.tuple #[.int .i32 0, .int .i64 0]) ∧ RS E w0 s i o r w' ∧ Below w.heap.size w w' := by
  have hc := cellAll h.rd
  have hsz := h.size
  have hil := h.at_le
  have hx := esc_index (s[i + 1]'hi)
  have hbt : (s[i + 1]'hi).toNat = byteAt s (i + 1) := by unfold byteAt; rw [dif_pos hi]
  rw [hbt, hs] at hx
  simp only [decide_eq_true_eq] at hx
  have hIB := fun W => Tryz.strings_IndexByte ⟨#[34, 92, 47, 98, 102, 110, 114, 116]⟩ ((s[i + 1]'hi).toNat : Int) W
  have hub : (((s[i + 1]'hi).toNat : Int).toNat).toUInt8 = s[i + 1]'hi := by simp
  have hlist : (⟨#[34, 92, 47, 98, 102, 110, 114, 116]⟩ : ByteArray).data.toList = escTab := rfl
  rw [hub, hlist, hx] at hIB
  have hIQ : ∀ W, Calls Tryz.prog 80 #[.string ⟨#[34, 92, 47, 98, 102, 110, 114, 116]⟩, .int .u8 ((s[i + 1]'hi).toNat : Int)] W fun e w' => e = .returned (.int .i64 (-1)) ∧ ∃ n, w' = W.drewN n := fun W => (hIB W).mono (fun e w' h => ⟨h.1, 0, h.2⟩)
  clear hIB hub hlist hbt hs hx
  have hi2 : (i : Int) + 1 < (s.size : Int) := by omega
  have hi0 : (0 : Int) ≤ (i : Int) + 1 := by omega
  have hw1 : IntKind.i64.wrap ((i : Int) + 1) = (i : Int) + 1 := by rw [IntKind.wrap_i64]; omega
  have cU := fun (W : World) (hR : RS E w0 s i o r W) => unit_any hA hR T p hv i (by omega)
  have hu16 := unitAt_le s i
  have hm16 := unitAt_le s (i + 6)
  have cU2 := fun (W : World) (hR : RS E w0 s i o r W) => unit_any hA hR T p hv (i + 6) (by omega)
  rw [show ((i + 6 : Nat) : Int) = (i : Int) + 6 by omega] at cU2
  generalize (unitAt s (i + 6)).1 = m1 at *
  generalize (unitAt s (i + 6)).2 = m2 at *
  generalize (unitAt s i).1 = u1 at *
  generalize (unitAt s i).2 = u2 at *
  subst h2
  go_enter Tryz.func110, Tryz.ntmps110
  go_wp2_with fail
  go_quiet (fail)
  have hB2 := pw_below_drewN (Below.refl w.heap.size w) nq
  have h2 := h.below hB2
  have hc2 := cellAll h2.rd
  generalize w.drewN nq = w2 at *
  clear nq hc
  go_wp2_with fail
  go_quiet ((go_at_call 80; exact Calls.quiet_of (hIQ _)))
  have hB3 := hB2.trans (pw_below_drewN (Below.refl w2.heap.size w2) nq |>.mono hB2.size)
  have h3 := h2.below (pw_below_drewN (Below.refl w2.heap.size w2) nq)
  have hc3 := cellAll h3.rd
  generalize w2.drewN nq = w3 at *
  clear nq hc2
  clear hIQ hw1
  obtain ⟨U, hU⟩ : ∃ U : Int, (u1 : Int) = U := ⟨_, rfl⟩
  obtain ⟨M, hM⟩ : ∃ M : Int, (m1 : Int) = M := ⟨_, rfl⟩
  rw [hU] at cU
  rw [hM] at cU2
  have hq : 56320 ≤ U ∨ (U < 56320 ∧ M < 56320) ∨ (U < 56320 ∧ 57344 ≤ M) := by omega
  have hU0 : 55296 ≤ U := by omega
  have hU1 : U < 57344 := by omega
  have hM0 : 0 ≤ M := by omega
  have hM1 : M ≤ 65535 := by omega
  clear hno hp0 hp1 hu16 hm16 hU hM
  rcases hq with hq | ⟨hq, hq2⟩ | ⟨hq, hq2⟩
  · go_wp2_with (first
      | (go_at_call 132; refine (cU2 _ h4).mono ?_; rintro e w5 ⟨rfl, h5, hb5⟩)
      | (go_at_call 132; refine (cU _ h3).mono ?_; rintro e w4 ⟨rfl, h4, hb4⟩; have hc4 := cellAll h4.rd))
    go_ret2
    exact ⟨rfl, h5, hB3.trans ((hb4.trans (hb5.mono hb4.size)).mono hB3.size)⟩
  · go_wp2_with (first
      | (go_at_call 132; refine (cU2 _ h4).mono ?_; rintro e w5 ⟨rfl, h5, hb5⟩)
      | (go_at_call 132; refine (cU _ h3).mono ?_; rintro e w4 ⟨rfl, h4, hb4⟩; have hc4 := cellAll h4.rd))
    go_ret2
    exact ⟨rfl, h5, hB3.trans ((hb4.trans (hb5.mono hb4.size)).mono hB3.size)⟩
  · go_wp2_with (first
      | (go_at_call 132; refine (cU2 _ h4).mono ?_; rintro e w5 ⟨rfl, h5, hb5⟩)
      | (go_at_call 132; refine (cU _ h3).mono ?_; rintro e w4 ⟨rfl, h4, hb4⟩; have hc4 := cellAll h4.rd))
    go_ret2
    exact ⟨rfl, h5, hB3.trans ((hb4.trans (hb5.mono hb4.size)).mono hB3.size)⟩
end Go.Proofs.YtkdeleafgailhaaGreatDoor
end
section
set_option linter.unusedVariables false
set_option linter.unusedSimpArgs false
namespace Go.Proofs.YtkdeleafgailhaaGreatDoor
open Go Go.RowKit Go.Proofs.YtkdeleafgailhaaGreatDoorW.PrintWords

set_option maxRecDepth 100000 in
set_option maxHeartbeats 4000000 in
theorem esc_pair {E : ErrV} {w0 : World} {s : ByteArray} {i o r : Nat} {w : World} (hA : AnyOK) (h : RS E w0 s i o r w) (T : TypeId) (p : Value) (hv : w0.cell? ⟨14, 0, none⟩ = some (.iface T p)) (hi : i + 1 < s.size) (hs : shortEsc (byteAt s (i + 1)) = none) (h2 : (unitAt s i).2 = true) (hp0 : 55296 ≤ (unitAt s i).1) (hp1 : (unitAt s i).1 < 57344) (hno : (unitAt s i).1 < 56320 ∧ 56320 ≤ (unitAt s (i + 6)).1 ∧ (unitAt s (i + 6)).1 < 57344) :
    Calls Tryz.prog 110 #[.pointer (some ⟨r, 0, none⟩)] w fun e w' => e = .returned (.tuple #[.int .i32 (((unitAt s i).1 - 55296) * 1024 + ((unitAt s (i + 6)).1 - 56320) + 65536 : Nat), .int .i64 12]) ∧ RS E w0 s i o r w' ∧ Below w.heap.size w w' := by
  have hc := cellAll h.rd
  have hsz := h.size
  have hil := h.at_le
  have hx := esc_index (s[i + 1]'hi)
  have hbt : (s[i + 1]'hi).toNat = byteAt s (i + 1) := by unfold byteAt; rw [dif_pos hi]
  rw [hbt, hs] at hx
  simp only [decide_eq_true_eq] at hx
  have hIB := fun W => Tryz.strings_IndexByte ⟨#[34, 92, 47, 98, 102, 110, 114, 116]⟩ ((s[i + 1]'hi).toNat : Int) W
  have hub : (((s[i + 1]'hi).toNat : Int).toNat).toUInt8 = s[i + 1]'hi := by simp
  have hlist : (⟨#[34, 92, 47, 98, 102, 110, 114, 116]⟩ : ByteArray).data.toList = escTab := rfl
  rw [hub, hlist, hx] at hIB
  have hIQ : ∀ W, Calls Tryz.prog 80 #[.string ⟨#[34, 92, 47, 98, 102, 110, 114, 116]⟩, .int .u8 ((s[i + 1]'hi).toNat : Int)] W fun e w' => e = .returned (.int .i64 (-1)) ∧ ∃ n, w' = W.drewN n := fun W => (hIB W).mono (fun e w' h => ⟨h.1, 0, h.2⟩)
  clear hIB hub hlist hbt hs hx
  have hi2 : (i : Int) + 1 < (s.size : Int) := by omega
  have hi0 : (0 : Int) ≤ (i : Int) + 1 := by omega
  have hw1 : IntKind.i64.wrap ((i : Int) + 1) = (i : Int) + 1 := by rw [IntKind.wrap_i64]; omega
  have cU := fun (W : World) (hR : RS E w0 s i o r W) => unit_any hA hR T p hv i (by omega)
  have hu16 := unitAt_le s i
  have hm16 := unitAt_le s (i + 6)
  have cU2 := fun (W : World) (hR : RS E w0 s i o r W) => unit_any hA hR T p hv (i + 6) (by omega)
  rw [show ((i + 6 : Nat) : Int) = (i : Int) + 6 by omega] at cU2
  generalize (unitAt s (i + 6)).1 = m1 at *
  generalize (unitAt s (i + 6)).2 = m2 at *
  generalize (unitAt s i).1 = u1 at *
  generalize (unitAt s i).2 = u2 at *
  subst h2
  have hval : (((u1 - 55296) * 1024 + (m1 - 56320) + 65536 : Nat) : Int) = ((u1 : Int) - 55296) * 1024 + ((m1 : Int) - 56320) + 65536 := by omega
  rw [hval]
  clear hval
  obtain ⟨U, hU⟩ : ∃ U : Int, (u1 : Int) = U := ⟨_, rfl⟩
  obtain ⟨M, hM⟩ : ∃ M : Int, (m1 : Int) = M := ⟨_, rfl⟩
  rw [hU] at cU
  rw [hM] at cU2
  rw [hU, hM]
  go_enter Tryz.func110, Tryz.ntmps110
  go_wp2_with fail
  go_quiet (fail)
  have hB2 := pw_below_drewN (Below.refl w.heap.size w) nq
  have h2 := h.below hB2
  have hc2 := cellAll h2.rd
  generalize w.drewN nq = w2 at *
  clear nq hc
  go_wp2_with fail
  go_quiet ((go_at_call 80; exact Calls.quiet_of (hIQ _)))
  have hB3 := hB2.trans (pw_below_drewN (Below.refl w2.heap.size w2) nq |>.mono hB2.size)
  have h3 := h2.below (pw_below_drewN (Below.refl w2.heap.size w2) nq)
  have hc3 := cellAll h3.rd
  generalize w2.drewN nq = w3 at *
  clear nq hc2
  clear hIQ hw1
  have hU0 : 55296 ≤ U := by omega
  have hU1 : U < 56320 := by omega
  have hM0 : 56320 ≤ M := by omega
  have hM1 : M < 57344 := by omega
  clear hno hp0 hp1 hu16 hm16 hU hM
  go_wp2_with (first
      | (go_at_call 132; refine (cU2 _ h4).mono ?_; rintro e w5 ⟨rfl, h5, hb5⟩)
      | (go_at_call 132; refine (cU _ h3).mono ?_; rintro e w4 ⟨rfl, h4, hb4⟩; have hc4 := cellAll h4.rd))
  go_ret2
  exact ⟨rfl, h5, hB3.trans ((hb4.trans (hb5.mono hb4.size)).mono hB3.size)⟩
/-- **escape**, but for IndexAny. -/
theorem escape_any {E : ErrV} {w0 : World} {s : ByteArray} {i o r : Nat} {w : World} (hA : AnyOK) (h : RS E w0 s i o r w) (T : TypeId) (p : Value) (hv : w0.cell? ⟨14, 0, none⟩ = some (.iface T p)) :
    Calls Tryz.prog 110 #[.pointer (some ⟨r, 0, none⟩)] w fun e w' => e = .returned (.tuple #[.int .i32 (escAt s i).1, .int .i64 (escAt s i).2]) ∧ RS E w0 s i o r w' ∧ Below w.heap.size w w' := by
  unfold escAt
  by_cases h1 : s.size ≤ i + 1
  · rw [if_pos h1]; exact esc_none h h1
  rw [if_neg h1]
  cases hs : shortEsc (byteAt s (i + 1)) with
  | some v => exact esc_short h (by omega) v hs
  | none =>
    simp only
    by_cases h2 : (unitAt s i).2 = false
    · rw [if_pos h2]; exact esc_unit hA h T p hv (by omega) hs h2
    rw [if_neg h2]
    have h2' : (unitAt s i).2 = true := by simpa using h2
    by_cases h3 : (unitAt s i).1 < 55296 ∨ 57344 ≤ (unitAt s i).1
    · rw [if_pos h3]; exact esc_plain hA h T p hv (by omega) hs h2' h3
    rw [if_neg h3]
    by_cases h4 : (unitAt s i).1 < 56320 ∧ 56320 ≤ (unitAt s (i + 6)).1 ∧ (unitAt s (i + 6)).1 < 57344
    · rw [if_pos h4]; exact esc_pair hA h T p hv (by omega) hs h2' (by omega) (by omega) h4
    · rw [if_neg h4]; exact esc_lone hA h T p hv (by omega) hs h2' (by omega) (by omega) h4
end Go.Proofs.YtkdeleafgailhaaGreatDoor
end
section
set_option linter.unusedVariables false
set_option linter.unusedSimpArgs false
namespace Go.Proofs.YtkdeleafgailhaaGreatDoor
open Go Go.RowKit Go.Proofs.YtkdeleafgailhaaGreatDoorW.PrintWords

theorem plus_no (l : List UInt8) (hl : ∀ x ∈ l, x.toNat < 128) (b : UInt8) (hb : 128 ≤ b.toNat) : Lib.indexByte l b = -1 := by
  have h := Lib.contains_iff_indexByte l b
  have hc : l.contains b = false := by
    rw [List.contains_eq_any_beq, List.any_eq_false]
    intro x hx he
    have := hl x hx
    have e := eq_of_beq he
    subst e
    omega
  rw [hc] at h
  have h1 : ¬ (0 ≤ Lib.indexByte l b) := of_decide_eq_false h.symm
  have h2 := Lib.indexByte_ge l b
  omega

set_option maxRecDepth 100000 in
set_option maxHeartbeats 4000000 in
theorem indexRune_2 (r : Int) (a b : UInt8) (w : World) (h0 : 128 ≤ r) (h1 : r ≤ 1114111) (hne : r ≠ 65533) (hv : Lib.validRune r = true) (he : Utf8.encode r = ⟨#[a, b]⟩) (hb : 128 ≤ b.toNat) :
    Calls Tryz.prog 156 #[.string ⟨#[43, 45, 95]⟩, .int .i32 r] w fun e w' => e = .returned (.int .i64 (-1)) ∧ Below w.heap.size w w' := by
  have b1 : (r == 65533) = false := by simpa using hne
  have b2 : ((((⟨#[43, 45, 95]⟩ : ByteArray)[1]'(by decide)).toNat : Int) != (((⟨#[a, b]⟩ : ByteArray)[1]'(by show 1 < 2; omega)).toNat : Int)) = true := by
    show ((45 : Int) != (b.toNat : Int)) = true
    simp; omega
  have hIQ : ∀ W, Calls Tryz.prog 80 #[.string ((⟨#[43, 45, 95]⟩ : ByteArray).extract 2 3), .int .u8 (((⟨#[a, b]⟩ : ByteArray)[1]'(by show 1 < 2; omega)).toNat : Int)] W fun e w' => e = .returned (.int .i64 (-1)) ∧ ∃ n, w' = W.drewN n := by
    intro W
    refine (Tryz.strings_IndexByte _ _ W).mono ?_
    rintro e w' ⟨rfl, rfl⟩
    refine ⟨?_, 0, rfl⟩
    rw [plus_no]
    · intro x hx
      have : x ∈ ([95] : List UInt8) := hx
      simp at this
      try subst this
      try decide
    · show 128 ≤ ((b.toNat : Int).toNat).toUInt8.toNat
      simpa using hb
  have hw2 : IntKind.i64.wrap 2 = 2 := by rw [IntKind.wrap_i64]; omega
  go_enter Tryz.func156, Tryz.ntmps156
  go_wp2_with (go_at_call 166; refine (Tryz.utf8_ValidRune r _).mono ?_; rintro e w' ⟨rfl, rfl⟩; rw [hv])
  go_step3
  go_wp2_with fail
  go_loopw [9] (fun x9 wr => x9 = .int .i64 1 ∧ wr = w') (fun _ wr => 0)
  case atStart => exact ⟨rfl, rfl⟩
  case round =>
    obtain ⟨rfl, rfl⟩ := hrel
    go_wp2_with fail
    go_step3
    go_wp2_with fail
    go_quiet (fail)
    have hB2 := pw_below_drewN (Below.refl wr.heap.size wr) nq
    generalize wr.drewN nq = w2 at *
    clear nq
    go_wp2_with fail
    go_quiet ((go_at_call 80; exact Calls.quiet_of (hIQ _)))
    go_wp2_with fail
    rw [Exit.noGoto_ret]
    simp +zetaDelta only [Exit.then, Exit.inBlock, Exit.noGoto_ret]
    go_ret
    exact ⟨rfl, hB2.trans (pw_below_drewN (Below.refl w2.heap.size w2) nq |>.mono hB2.size)⟩

set_option maxRecDepth 100000 in
set_option maxHeartbeats 4000000 in
theorem indexRune_3 (r : Int) (a b c : UInt8) (w : World) (h0 : 128 ≤ r) (h1 : r ≤ 1114111) (hne : r ≠ 65533) (hv : Lib.validRune r = true) (he : Utf8.encode r = ⟨#[a, b, c]⟩) (hb : 128 ≤ c.toNat) :
    Calls Tryz.prog 156 #[.string ⟨#[43, 45, 95]⟩, .int .i32 r] w fun e w' => e = .returned (.int .i64 (-1)) ∧ Below w.heap.size w w' := by
  have b1 : (r == 65533) = false := by simpa using hne
  have b2 : ((((⟨#[43, 45, 95]⟩ : ByteArray)[2]'(by decide)).toNat : Int) != (((⟨#[a, b, c]⟩ : ByteArray)[2]'(by show 2 < 3; omega)).toNat : Int)) = true := by
    show ((95 : Int) != (c.toNat : Int)) = true
    simp; omega
  have hIQ : ∀ W, Calls Tryz.prog 80 #[.string ((⟨#[43, 45, 95]⟩ : ByteArray).extract 3 3), .int .u8 (((⟨#[a, b, c]⟩ : ByteArray)[2]'(by show 2 < 3; omega)).toNat : Int)] W fun e w' => e = .returned (.int .i64 (-1)) ∧ ∃ n, w' = W.drewN n := by
    intro W
    refine (Tryz.strings_IndexByte _ _ W).mono ?_
    rintro e w' ⟨rfl, rfl⟩
    refine ⟨?_, 0, rfl⟩
    rw [plus_no]
    · intro x hx
      have : x ∈ ([] : List UInt8) := hx
      simp at this
      try subst this
      try decide
    · show 128 ≤ ((c.toNat : Int).toNat).toUInt8.toNat
      simpa using hb
  have hw2 : IntKind.i64.wrap 3 = 3 := by rw [IntKind.wrap_i64]; omega
  go_enter Tryz.func156, Tryz.ntmps156
  go_wp2_with (go_at_call 166; refine (Tryz.utf8_ValidRune r _).mono ?_; rintro e w' ⟨rfl, rfl⟩; rw [hv])
  go_step3
  go_wp2_with fail
  go_loopw [9] (fun x9 wr => x9 = .int .i64 2 ∧ wr = w') (fun _ wr => 0)
  case atStart => exact ⟨rfl, rfl⟩
  case round =>
    obtain ⟨rfl, rfl⟩ := hrel
    go_wp2_with fail
    go_step3
    go_wp2_with fail
    go_quiet (fail)
    have hB2 := pw_below_drewN (Below.refl wr.heap.size wr) nq
    generalize wr.drewN nq = w2 at *
    clear nq
    go_wp2_with fail
    go_quiet ((go_at_call 80; exact Calls.quiet_of (hIQ _)))
    go_wp2_with fail
    rw [Exit.noGoto_ret]
    simp +zetaDelta only [Exit.then, Exit.inBlock, Exit.noGoto_ret]
    go_ret
    exact ⟨rfl, hB2.trans (pw_below_drewN (Below.refl w2.heap.size w2) nq |>.mono hB2.size)⟩

set_option maxRecDepth 100000 in
set_option maxHeartbeats 4000000 in
theorem indexRune_4 (r : Int) (a b c d : UInt8) (w : World) (h0 : 128 ≤ r) (h1 : r ≤ 1114111) (hne : r ≠ 65533) (hv : Lib.validRune r = true) (he : Utf8.encode r = ⟨#[a, b, c, d]⟩) (hb : 128 ≤ d.toNat) :
    Calls Tryz.prog 156 #[.string ⟨#[43, 45, 95]⟩, .int .i32 r] w fun e w' => e = .returned (.int .i64 (-1)) ∧ Below w.heap.size w w' := by
  have b1 : (r == 65533) = false := by simpa using hne
  go_enter Tryz.func156, Tryz.ntmps156
  go_wp2_with (go_at_call 166; refine (Tryz.utf8_ValidRune r _).mono ?_; rintro e w' ⟨rfl, rfl⟩; rw [hv])
  go_step3
  go_wp2_with fail
  go_loopw [9] (fun x9 wr => x9 = .int .i64 3 ∧ wr = w') (fun _ wr => 0)
  case atStart => exact ⟨rfl, rfl⟩
  case round =>
    obtain ⟨rfl, rfl⟩ := hrel
    go_wp2_with fail
    simp +zetaDelta only [Exit.then, Exit.inBlock, Exit.noGoto_ret]
    go_ret
    exact ⟨rfl, Below.refl _ _⟩

/-! ### three rounds over "+-_" -/
set_option maxRecDepth 100000 in
set_option maxHeartbeats 4000000 in
theorem indexRune_e (w : World) :
    Calls Tryz.prog 156 #[.string ⟨#[43, 45, 95]⟩, .int .i32 65533] w fun e w' => e = .returned (.int .i64 (-1)) ∧ Below w.heap.size w w' := by
  go_enter Tryz.func156, Tryz.ntmps156
  go_wp2_with fail
  go_loopw [] (fun wr => ∃ i, i ≤ 3 ∧ wr = w.iter ⟨#[43, 45, 95]⟩ i) (fun wr => 3 - wr.iterPos w.heap.size)
  case atStart => exact ⟨0, by omega, rfl⟩
  case round =>
    obtain ⟨i, hi, rfl⟩ := hrel
    have hit := fun j => World.iter_heap w ⟨#[43, 45, 95]⟩ j
    by_cases hl : i < 3
    · have hl' : i < (⟨#[43, 45, 95]⟩ : ByteArray).size := hl
      have hv : ((⟨#[43, 45, 95]⟩ : ByteArray)[i]'hl').toNat < 128 := by
        match i, hl with
        | 0, _ => show (43 : UInt8).toNat < 128; decide
        | 1, _ => show (45 : UInt8).toNat < 128; decide
        | 2, _ => show (95 : UInt8).toNat < 128; decide
      have hnx := fun ty => run_next_ascii (P := Tryz.prog) w ⟨#[43, 45, 95]⟩ i ty hl' hv
      generalize ((⟨#[43, 45, 95]⟩ : ByteArray)[i]'hl').toNat = v at hv hnx
      have b1 : ((v : Int) == 65533) = false := by simp; omega
      go_wp2_with fail
      go_roundw
      case rel => exact ⟨i + 1, by omega, rfl⟩
      case measure => simp only [World.iterPos, hit]; omega
    · have h3 : i = 3 := by omega
      subst h3
      have hnx := fun ty => run_next_end (P := Tryz.prog) w ⟨#[43, 45, 95]⟩ 3 ty (by show ¬ 3 < 3; omega)
      go_wp2_with fail
      go_ret
      exact ⟨rfl, (Below.refl _ w).alloc (Nat.le_refl _) _⟩

set_option maxRecDepth 100000 in
set_option maxHeartbeats 4000000 in
theorem indexRune_no (r : Int) (w : World) (h0 : 128 ≤ r) (hne : r ≠ 65533) (hv : Lib.validRune r = false) :
    Calls Tryz.prog 156 #[.string ⟨#[43, 45, 95]⟩, .int .i32 r] w fun e w' => e = .returned (.int .i64 (-1)) ∧ Below w.heap.size w w' := by
  have b1 : (r == 65533) = false := by simpa using hne
  go_enter Tryz.func156, Tryz.ntmps156
  go_wp2_with (go_at_call 166; refine (Tryz.utf8_ValidRune r _).mono ?_; rintro e w' ⟨rfl, rfl⟩; rw [hv])
  go_ret
  exact ⟨rfl, Below.refl _ _⟩

theorem indexRune_any (r : Nat) (w : World) :
    Calls Tryz.prog 156 #[.string ⟨#[43, 45, 95]⟩, .int .i32 r] w fun e w' => ∃ q : Int, e = .returned (.int .i64 q) ∧ (0 ≤ q → r = 43 ∨ r = 45 ∨ r = 95) ∧ Below w.heap.size w w' := by
  by_cases h : r < 128
  · refine (Tryz.strings_IndexRune_ascii ⟨#[43, 45, 95]⟩ r w (by omega) (by omega)).mono ?_
    rintro e w' ⟨rfl, rfl⟩
    refine ⟨_, rfl, ?_, Below.refl _ _⟩
    intro hq
    have hc := Lib.contains_iff_indexByte [43, 45, 95] ((r : Int).toNat.toUInt8)
    have hd : decide (0 ≤ Lib.indexByte [43, 45, 95] ((r : Int).toNat.toUInt8)) = true := decide_eq_true hq
    rw [hd] at hc
    rw [Int.toNat_natCast] at hc
    have key : ∀ n : Fin 128, [43, 45, 95].contains (n.val.toUInt8) = true → n.val = 43 ∨ n.val = 45 ∨ n.val = 95 := by decide
    exact key ⟨r, h⟩ hc
  have hcon : ∀ w' : World, (∃ q : Int, Ending.returned (.int .i64 (-1)) = .returned (.int .i64 q) ∧ (0 ≤ q → r = 43 ∨ r = 45 ∨ r = 95) ∧ Below w.heap.size w w') ↔ Below w.heap.size w w' := fun w' => ⟨fun ⟨_, _, _, h⟩ => h, fun h => ⟨-1, rfl, fun h => absurd h (by omega), h⟩⟩
  by_cases he : r = 65533
  · subst he
    refine (indexRune_e w).mono ?_
    rintro e w' ⟨rfl, hb⟩
    exact (hcon w').2 hb
  cases hv : Lib.validRune (r : Int) with
  | false =>
    refine (indexRune_no r w (by omega) (by omega) hv).mono ?_
    rintro e w' ⟨rfl, hb⟩
    exact (hcon w').2 hb
  | true =>
    have hr1 : (r : Int) ≤ 1114111 := by
      have := of_decide_eq_true hv
      omega
    obtain ⟨f1, f2, f3⟩ := encode_facts r (by rw [validRune_eq]; exact hv) (by omega)
    obtain ⟨L, hL⟩ : ∃ L, Utf8.encode (r : Int) = L := ⟨_, rfl⟩
    rw [hL] at f1 f2 f3
    have hlast : 128 ≤ (L[L.size - 1]'(by omega)).toNat := f3 (by omega)
    obtain ⟨⟨l⟩⟩ := L
    match l, f1, f2, hlast, hL with
    | [a, b], _, _, hb, hL =>
      refine (indexRune_2 r a b w (by omega) hr1 (by omega) hv hL hb).mono ?_
      rintro e w' ⟨rfl, hb⟩
      exact (hcon w').2 hb
    | [a, b, c], _, _, hb, hL =>
      refine (indexRune_3 r a b c w (by omega) hr1 (by omega) hv hL hb).mono ?_
      rintro e w' ⟨rfl, hb⟩
      exact (hcon w').2 hb
    | [a, b, c, d], _, _, hb, hL =>
      refine (indexRune_4 r a b c d w (by omega) hr1 (by omega) hv hL hb).mono ?_
      rintro e w' ⟨rfl, hb⟩
      exact (hcon w').2 hb
    | [], f1, _, _, _ => exact absurd (show 2 ≤ 0 from f1) (by omega)
    | [_], f1, _, _, _ => exact absurd (show 2 ≤ 1 from f1) (by omega)
    | _ :: _ :: _ :: _ :: _ :: t, _, f2, _, _ => exact absurd (show t.length + 1 + 1 + 1 + 1 + 1 ≤ 4 from f2) (by omega)

theorem hexL_bad : ∀ (l : List UInt8) (acc : Nat) (c : UInt8), c ∈ l → hexOf c = none → hexL acc l = none
  | [], _, _, h, _ => nomatch h
  | x :: l, acc, c, h, hc => by
    rw [hexL]
    cases hx : hexOf x with
    | none => rfl
    | some d =>
      rcases List.mem_cons.1 h with h | h
      · subst h; rw [hc] at hx; cases hx
      · exact hexL_bad l _ c h hc
set_option maxRecDepth 100000 in
theorem hexL_sign (s : ByteArray) (pos : Nat) (hp : pos < s.size) (h : (Utf8.decode s pos).1 = 43 ∨ (Utf8.decode s pos).1 = 45 ∨ (Utf8.decode s pos).1 = 95) : hexL 0 s.data.toList = none := by
  by_cases ha : (s[pos]'hp).toNat < 128
  · rw [decode_ascii s pos hp ha] at h
    simp only at h
    refine hexL_bad _ _ (s[pos]'hp) (Array.getElem_mem_toList (xs := s.data) hp) ?_
    have key : ∀ n : Fin 256, (n.val = 43 ∨ n.val = 45 ∨ n.val = 95) → hexOf (UInt8.ofNat n.val) = none := by decide
    have := key ⟨(s[pos]'hp).toNat, (s[pos]'hp).toNat_lt⟩ h
    simpa using this
  · have := (decode_high s pos hp (by omega)).1
    omega

set_option maxRecDepth 100000 in
set_option maxHeartbeats 4000000 in
theorem anyOK : AnyOK := by
  intro s w hs
  have hs4 : (s.size : Int) = 4 := by omega
  have b0 : (([43, 45, 95] : List UInt8) == []) = false := by decide
  go_enter Tryz.func146, Tryz.ntmps146
  go_wp2_with (go_at_call 157; refine (Tryz.strings_shouldUseASCIISet _ _).mono ?_; rintro e w' ⟨rfl, hw⟩; rw [hw])
  go_loopw [] (fun wr => ∃ pos, wr.heap[w.heap.size]? = some (.stringIter s pos) ∧ Below w.heap.size w wr) (fun wr => s.size - wr.iterPos w.heap.size)
  case atStart => exact ⟨0, World.iter_heap w s 0, (Below.refl _ w).alloc (Nat.le_refl _) _⟩
  case round =>
    obtain ⟨pos, hit, hbw⟩ := hrel
    have hsz : w.heap.size < wr.heap.size := (Array.getElem?_eq_some_iff.1 hit).1
    by_cases hp : pos < s.size
    · have hnx : ∀ ty, (Instr.next (.pointer (some ⟨w.heap.size, 0, none⟩)) true ty).run Tryz.prog wr = _ := fun ty => Lib.run_next_any_at wr w.heap.size s pos ty hit hp
      have hbad := hexL_sign s pos hp
      have hwd := width_pos s pos hp
      have hit2 := Lib.iterAt_heap wr w.heap.size s pos (pos + (Utf8.decode s pos).2) hit
      have hbw2 := Lib.below_iterAt hbw (k := w.heap.size) (Nat.le_refl _) s (pos + (Utf8.decode s pos).2)
      generalize (Utf8.decode s pos).1 = r at *
      generalize (Utf8.decode s pos).2 = d at *
      have cR := fun W => indexRune_any r W
      have hsz3 : w.heap.size < (wr.iterAt w.heap.size s (pos + d)).heap.size := by rw [Lib.iterAt_size]; exact hsz
      generalize wr.iterAt w.heap.size s (pos + d) = w2 at *
      go_wp2_with (go_at_call 156; refine (cR _).mono ?_; rintro e w3 ⟨q, rfl, hq, hb3⟩)
      · go_ret
        exact ⟨pos, rfl, fun _ => hbad (hq (by assumption)), hbw2.trans (hb3.mono (by omega))⟩
      · go_roundw
        case rel => exact ⟨pos + d, (hb3.block _ hsz3).trans hit2, hbw2.trans (hb3.mono (by omega))⟩
        case measure =>
          simp only [World.iterPos, (hb3.block _ hsz3).trans hit2, hit]
          omega
    · have hnx : ∀ ty, (Instr.next (.pointer (some ⟨w.heap.size, 0, none⟩)) true ty).run Tryz.prog wr = _ := fun ty => Lib.run_next_end_at wr w.heap.size s pos ty hit hp
      go_wp2_with fail
      go_ret
      exact ⟨-1, rfl, fun h => absurd h (by omega), hbw⟩
end Go.Proofs.YtkdeleafgailhaaGreatDoor
end
