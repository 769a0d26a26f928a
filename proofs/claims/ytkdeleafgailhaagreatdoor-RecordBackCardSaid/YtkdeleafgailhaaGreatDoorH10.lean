/- json.Print. Contracts of json.Same, At, Get, Depth. Contracts of json.At, json.Get. Contracts of json.Depth and its closure. json's reader: its state in memory; what gap and next do. json's reader: faults; due. -/
import Derived.Test.YtkdeleafgailhaaGreatDoorH9
import Derived.Deep.RegionWith
import Derived.Deep.RegionHeld3
import Derived.BigQuiet
import Derived.Deep.QuietTactic
section
set_option linter.unusedVariables false
set_option linter.unusedSimpArgs false
namespace Go.Proofs.YtkdeleafgailhaaGreatDoor
open Go Go.RowKit Go.Proofs.YtkdeleafgailhaaGreatDoorW.PrintWords

/-! ### the one form's weight -/
theorem cleanFrom_len (s : ByteArray) : ∀ (fuel pos : Nat), (cleanFrom s fuel pos).length ≤ 4 * (s.size - pos)
  | 0, _ => by simp [cleanFrom]
  | fuel + 1, pos => by
    rw [cleanFrom]
    split
    · rename_i hp
      have h1 := (Lib.encodeRuneZ_length (Utf8.decode s pos).1).2
      have h0 := Lib.runeCells_length (Utf8.decode s pos).1
      have h2 := width_pos s pos hp
      have h3 := cleanFrom_len s fuel (pos + (Utf8.decode s pos).2)
      have h4 : (Lib.encodeRune (Utf8.decode s pos).1).length ≤ 4 := by
        rw [← h0]; simpa [Lib.runeCells] using h1
      rw [List.length_append]
      omega
    · simp
theorem clean_size (s : ByteArray) : (clean s).size ≤ 4 * s.size := by
  unfold clean
  split
  · omega
  · rw [size_mk]
    have := cleanFrom_len s s.size 0
    omega
theorem wtF_insF (out : List JF) (name : ByteArray) (v : JV) : JV.wtF (insF out name v) ≤ JV.wtF out + 1 + name.size + v.wt := by
  unfold insF
  split
  · omega
  · have h := List.takeWhile_append_dropWhile (p := fun f : JF => lessB f.name name) (l := out)
    have h2 := congrArg JV.wtF h
    rw [wtF_app] at h2
    rw [wtF_app, JV.wtF]
    omega
mutual
theorem norm_wt : ∀ (x : JV), x.norm.wt ≤ 4 * x.wt
  | .mk k t ng ds ex tx l f => by
    rw [JV.norm, JV.wt]
    split
    · rw [JV.wt, JV.wtL, JV.wtF]; show 1 + 0 + 0 + 0 + 0 ≤ _; omega
    · split
      · have := (decForm_bounds ng ds ex).1
        rw [JV.wt, JV.wtL, JV.wtF]; show 1 + (decForm ng ds ex).1.digits.size + 0 + 0 + 0 ≤ _; omega
      · split
        · have := clean_size tx
          rw [JV.wt, JV.wtL, JV.wtF]; show 1 + 0 + (clean tx).size + 0 + 0 ≤ _; omega
        · split
          · have := normL_wt l
            rw [JV.wt, JV.wtF]; show 1 + 0 + 0 + JV.wtL (JV.normL l) + 0 ≤ _; omega
          · split
            · have := normF_wt f []
              rw [JV.wt, JV.wtL]; rw [show JV.wtF [] = 0 from by rw [JV.wtF]] at this; show 1 + 0 + 0 + 0 + JV.wtF (JV.normF f []) ≤ _; omega
            · unfold JV.nul; rw [JV.wt, JV.wtL, JV.wtF]; show 1 + 0 + 0 + 0 + 0 ≤ _; omega
theorem normL_wt : ∀ (l : List JV), JV.wtL (JV.normL l) ≤ 4 * JV.wtL l
  | [] => by rw [JV.normL]; omega
  | x :: l => by
    rw [JV.normL, JV.wtL, JV.wtL]
    have := norm_wt x
    have := normL_wt l
    omega
theorem normF_wt : ∀ (l : List JF) (out : List JF), JV.wtF (JV.normF l out) ≤ JV.wtF out + 4 * JV.wtF l
  | [], out => by rw [JV.normF]; omega
  | .mk nm v :: l, out => by
    rw [JV.normF, JV.wtF]
    have := norm_wt v
    have := normF_wt l (insF out (clean nm) v.norm)
    have := wtF_insF out (clean nm) v.norm
    have := clean_size nm
    omega
end
theorem intsF_iff : ∀ (l : List JF), JV.intsF l ↔ ∀ f ∈ l, f.value.ints
  | [] => by rw [JV.intsF]; simp
  | .mk nm v :: l => by rw [JV.intsF, intsF_iff l]; simp [JF.value]
theorem intsF_insF {out : List JF} {name : ByteArray} {v : JV} (h : JV.intsF out) (hv : v.ints) : JV.intsF (insF out name v) := by
  unfold insF
  split
  · exact h
  · rw [intsF_iff] at h ⊢
    intro f hf
    rcases List.mem_append.1 hf with hf | hf
    · exact h f (List.takeWhile_subset _ hf)
    · rcases List.mem_cons.1 hf with rfl | hf
      · exact hv
      · exact h f (List.dropWhile_subset _ hf)
mutual
theorem norm_ints : ∀ (x : JV), x.norm.ints
  | .mk k t ng ds ex tx l f => by
    have z : (-9223372036854775808 : Int) ≤ 0 ∧ (0 : Int) ≤ 9223372036854775807 := by omega
    rw [JV.norm]
    split
    · rw [JV.ints, JV.intsL, JV.intsF]; exact ⟨by omega, z, trivial, trivial⟩
    · split
      · have := (decForm_bounds ng ds ex).2
        rw [JV.ints, JV.intsL, JV.intsF]
        exact ⟨by omega, ⟨by show -9223372036854775808 ≤ (decForm ng ds ex).1.exp; omega, by show (decForm ng ds ex).1.exp ≤ _; omega⟩, trivial, trivial⟩
      · split
        · rw [JV.ints, JV.intsL, JV.intsF]; exact ⟨by omega, z, trivial, trivial⟩
        · split
          · rw [JV.ints, JV.intsF]; exact ⟨by omega, z, normL_ints l, trivial⟩
          · split
            · rw [JV.ints, JV.intsL]; exact ⟨by omega, z, trivial, normF_ints f [] (by rw [JV.intsF]; trivial)⟩
            · unfold JV.nul; rw [JV.ints, JV.intsL, JV.intsF]; exact ⟨z, z, trivial, trivial⟩
theorem normL_ints : ∀ (l : List JV), JV.intsL (JV.normL l)
  | [] => by rw [JV.normL, JV.intsL]; trivial
  | x :: l => by rw [JV.normL, JV.intsL]; exact ⟨norm_ints x, normL_ints l⟩
theorem normF_ints : ∀ (l : List JF) (out : List JF), JV.intsF out → JV.intsF (JV.normF l out)
  | [], out, h => by rw [JV.normF]; exact h
  | .mk nm v :: l, out, h => by
    rw [JV.normF]
    exact normF_ints l _ (intsF_insF h (norm_ints v))
end

set_option maxRecDepth 100000 in
set_option maxHeartbeats 4000000 in
/-- **json.Print.** -/
theorem print_any (x : JV) (w : World) (cs : List Value) (hK : kV.K w x cs) (hF : Facts w) (hwt : x.wt ≤ 1073741824) (hin : x.ints) :
    Calls Tryz.prog 29 #[.agg cs.toArray] w fun e w' => e = .returned (.string ⟨x.print.toArray⟩) ∧ Below w.heap.size w w' := by
  obtain ⟨A, c, B, d, rfl, hlc, hCl, hfc, hCf⟩ := kV_open hK
  unfold JV.cells at *
  have hb1 := (Below.refl _ w).alloc (Nat.le_refl _) (.cells #[.int .i64 x.kind, .bool x.truth, .bool x.neg, .string x.digits, .int .i64 x.exp, .string x.text, .slice A x.list.length c, .slice B x.fields.length d] 27)
  have hI := IsB.fresh (w.alloc (.cells #[.int .i64 x.kind, .bool x.truth, .bool x.neg, .string x.digits, .int .i64 x.exp, .string x.text, .slice A x.list.length c, .slice B x.fields.length d] 27))
  have hb2 := (Below.refl _ (w.alloc (.cells #[.int .i64 x.kind, .bool x.truth, .bool x.neg, .string x.digits, .int .i64 x.exp, .string x.text, .slice A x.list.length c, .slice B x.fields.length d] 27))).alloc (Nat.le_refl _) (.cells #[.pointer none, .slice none 0 0] 101)
  have hI2 := hI.below ((Below.refl _ ((w.alloc (.cells #[.int .i64 x.kind, .bool x.truth, .bool x.neg, .string x.digits, .int .i64 x.exp, .string x.text, .slice A x.list.length c, .slice B x.fields.length d] 27)).alloc (.cells #[.pointer none, .slice none 0 0] 101))).alloc (Nat.le_refl _) (.cells #[.func (.func 60) #[] #[.pointer (some ⟨w.heap.size + 1, 0, none⟩), .pointer (some ⟨w.heap.size + 1 + 1, 0, none⟩)]] 102))
  have hs1 : (w.alloc (.cells #[.int .i64 x.kind, .bool x.truth, .bool x.neg, .string x.digits, .int .i64 x.exp, .string x.text, .slice A x.list.length c, .slice B x.fields.length d] 27)).heap.size = w.heap.size + 1 := by simp
  rw [hs1] at hI2
  have hB3 := ((hb1.alloc (by simp) (.cells #[.pointer none, .slice none 0 0] 101)).alloc (by simp; omega) (.cells #[.func (.func 60) #[] #[.pointer (some ⟨w.heap.size + 1, 0, none⟩), .pointer (some ⟨w.heap.size + 1 + 1, 0, none⟩)]] 102))
  have hnew := heap_alloc_new ((w.alloc (.cells #[.int .i64 x.kind, .bool x.truth, .bool x.neg, .string x.digits, .int .i64 x.exp, .string x.text, .slice A x.list.length c, .slice B x.fields.length d] 27)).alloc (.cells #[.pointer none, .slice none 0 0] 101)) (.cells #[.func (.func 60) #[] #[.pointer (some ⟨w.heap.size + 1, 0, none⟩), .pointer (some ⟨w.heap.size + 1 + 1, 0, none⟩)]] 102)
  rw [show ((w.alloc (.cells #[.int .i64 x.kind, .bool x.truth, .bool x.neg, .string x.digits, .int .i64 x.exp, .string x.text, .slice A x.list.length c, .slice B x.fields.length d] 27)).alloc (.cells #[.pointer none, .slice none 0 0] 101)).heap.size = w.heap.size + 1 + 1 by simp] at hnew
  have hP : PS (w.heap.size + 1) (w.heap.size + 1) (w.heap.size + 1 + 1) w [] ((((w.alloc (.cells #[.int .i64 x.kind, .bool x.truth, .bool x.neg, .string x.digits, .int .i64 x.exp, .string x.text, .slice A x.list.length c, .slice B x.fields.length d] 27)).alloc (.cells #[.pointer none, .slice none 0 0] 101)).alloc (.cells #[.func (.func 60) #[] #[.pointer (some ⟨w.heap.size + 1, 0, none⟩), .pointer (some ⟨w.heap.size + 1 + 1, 0, none⟩)]] 102))).drew := PS.below (W := (((w.alloc (.cells #[.int .i64 x.kind, .bool x.truth, .bool x.neg, .string x.digits, .int .i64 x.exp, .string x.text, .slice A x.list.length c, .slice B x.fields.length d] 27)).alloc (.cells #[.pointer none, .slice none 0 0] 101)).alloc (.cells #[.func (.func 60) #[] #[.pointer (some ⟨w.heap.size + 1, 0, none⟩), .pointer (some ⟨w.heap.size + 1 + 1, 0, none⟩)]] 102))) ⟨hI2, hnew, by omega, hB3, hF⟩ (below_drew (Below.refl _ _))
  have cN := norm_any x ((((w.alloc (.cells #[.int .i64 x.kind, .bool x.truth, .bool x.neg, .string x.digits, .int .i64 x.exp, .string x.text, .slice A x.list.length c, .slice B x.fields.length d] 27)).alloc (.cells #[.pointer none, .slice none 0 0] 101)).alloc (.cells #[.func (.func 60) #[] #[.pointer (some ⟨w.heap.size + 1, 0, none⟩), .pointer (some ⟨w.heap.size + 1 + 1, 0, none⟩)]] 102))).drew _ (kV.K_below (below_drew hB3) hK) hP.fct (by omega) hin
  have hnw := norm_wt x
  have hni := norm_ints x
  have hpl := put_len x.norm
  unfold JV.print
  replace hP := Aside0.mk hP
  replace hB3 := Aside0.mk hB3
  clear hb1 hI hb2 hI2 hs1 hnew hK hCl hCf hF
  go_enter Tryz.func29, Tryz.ntmps29
  go_wp2_with fail
  go_region_with (first
    | (go_at_call 9; refine cN.mono ?_; rintro e w1 ⟨cs', rfl, hM, hb1⟩; obtain ⟨vl, vf, rfl, hRl, hRf⟩ := kV_openM hM; obtain ⟨Al, cl, rfl⟩ := Kd.R_slice hRl; obtain ⟨Af, cf, rfl⟩ := Kd.R_slice hRf; unfold JV.cells at hM; unfold JV.cells; clear hRl hRf; have hM1 := Aside0.mk (kV.M_lower (Nat.zero_le _) hM); clear hM; have hP1 := hP.out.below hb1; have hcg := cellAll hP1.put; unfold clo at hcg; replace hP1 := Aside0.mk hP1)
    | (go_at_call 60; refine (put_any x.norm _ _ _ w _ w1 _ hP1.out hM1.out (by omega) hni (by simp; omega)).mono ?_; rintro e w2 ⟨rfl, hP2, hW2⟩))
  all_goals (go_wp2_with (go_at_call 65; refine (string_k _ _ _ _ hP2.isB hP2.size).mono ?_; rintro e w3 ⟨rfl, hI3, hb3, ho3⟩))
  all_goals go_ret
  all_goals exact ⟨rfl, hP2.low.trans (hb3.mono (by omega))⟩
end Go.Proofs.YtkdeleafgailhaaGreatDoor
end
section
set_option linter.unusedVariables false
set_option linter.unusedSimpArgs false
namespace Go.Proofs.YtkdeleafgailhaaGreatDoor
open Go Go.RowKit Go.Proofs.YtkdeleafgailhaaGreatDoorW.PrintWords

/-! ### a value's cells, with its slices' names -/
structure VC (w : World) (x : JV) (A B : Option Addr) (c d : Nat) : Prop where
  k : kV.K w x (x.cells (.slice A x.list.length c) (.slice B x.fields.length d))
  lc : x.list.length ≤ c
  l : kV.C w A x.list.length x.list
  fc : x.fields.length ≤ d
  f : kF.C w B x.fields.length x.fields
theorem VC.below {w w' : World} {x : JV} {A B : Option Addr} {c d : Nat} (h : VC w x A B c d) (hb : Below w.heap.size w w') : VC w' x A B c d :=
  ⟨kV.K_below hb h.k, h.lc, Kd.C_below h.l hb, h.fc, Kd.C_below h.f hb⟩
theorem VC.of {w : World} {x : JV} {cs : List Value} (h : kV.K w x cs) : ∃ A c B d, cs = x.cells (.slice A x.list.length c) (.slice B x.fields.length d) ∧ VC w x A B c d := by
  obtain ⟨A, c, B, d, rfl, h1, h2, h3, h4⟩ := kV_open h
  exact ⟨A, c, B, d, rfl, h, h1, h2, h3, h4⟩

theorem bytes_beq (a b : ByteArray) : (a.toList == b.toList) = decide (a = b) := by
  by_cases h : a = b
  · subst h; simp
  · rw [decide_eq_false h]
    refine beq_eq_false_iff_ne.2 (fun e => h ?_)
    rw [toList_eq, toList_eq] at e
    exact bytes_eq e
set_option maxRecDepth 100000 in
set_option maxHeartbeats 4000000 in
theorem same_core (w : World) (k k' : Int) (t ng t' ng' : Bool) (ds tx ds' tx' : ByteArray) (ex ex' : Int) (A B A' B' : Option Addr) (n c m d n' c' m' d' : Nat) (P1 P2 : ByteArray)
    (cP : ∀ W, Below w.heap.size w W → Calls Tryz.prog 29 #[.agg #[.int .i64 k, .bool t, .bool ng, .string ds, .int .i64 ex, .string tx, .slice A n c, .slice B m d]] W fun e w' => e = .returned (.string P1) ∧ Below W.heap.size W w')
    (cP' : ∀ W, Below w.heap.size w W → Calls Tryz.prog 29 #[.agg #[.int .i64 k', .bool t', .bool ng', .string ds', .int .i64 ex', .string tx', .slice A' n' c', .slice B' m' d']] W fun e w' => e = .returned (.string P2) ∧ Below W.heap.size W w') :
    Calls Tryz.prog 30 #[.agg #[.int .i64 k, .bool t, .bool ng, .string ds, .int .i64 ex, .string tx, .slice A n c, .slice B m d], .agg #[.int .i64 k', .bool t', .bool ng', .string ds', .int .i64 ex', .string tx', .slice A' n' c', .slice B' m' d']] w fun e w' => e = .returned (.bool (decide (P1 = P2))) ∧ Below w.heap.size w w' := by
  have hB0 := below_drew (((Below.refl _ w).alloc (Nat.le_refl _) (.cells #[.int .i64 k, .bool t, .bool ng, .string ds, .int .i64 ex, .string tx, .slice A n c, .slice B m d] 27)).alloc (by simp) (.cells #[.int .i64 k', .bool t', .bool ng', .string ds', .int .i64 ex', .string tx', .slice A' n' c', .slice B' m' d'] 27))
  obtain ⟨e0, e1⟩ := boxes w (.cells #[.int .i64 k, .bool t, .bool ng, .string ds, .int .i64 ex, .string tx, .slice A n c, .slice B m d] 27) (.cells #[.int .i64 k', .bool t', .bool ng', .string ds', .int .i64 ex', .string tx', .slice A' n' c', .slice B' m' d'] 27)
  generalize hW2 : ((w.alloc (.cells #[.int .i64 k, .bool t, .bool ng, .string ds, .int .i64 ex, .string tx, .slice A n c, .slice B m d] 27)).alloc (.cells #[.int .i64 k', .bool t', .bool ng', .string ds', .int .i64 ex', .string tx', .slice A' n' c', .slice B' m' d'] 27)).drew = W2 at hB0 e0 e1
  have hs2 : W2.heap.size = w.heap.size + 2 := by rw [← hW2]; simp [World.drew]
  have hS : ∀ W, Below W2.heap.size W2 W → ((∀ j, (W).cell? ⟨w.heap.size, j, none⟩ = ((#[.int .i64 k, .bool t, .bool ng, .string ds, .int .i64 ex, .string tx, .slice A n c, .slice B m d] : Array Value))[j]?) ∧ (∀ j, (W).cell? ⟨w.heap.size + 1, j, none⟩ = ((#[.int .i64 k', .bool t', .bool ng', .string ds', .int .i64 ex', .string tx', .slice A' n' c', .slice B' m' d'] : Array Value))[j]?) ∧ Below W2.heap.size W2 (W)) := fun W hb => ⟨cellAll ((hb.block w.heap.size (by omega)).trans e0), cellAll ((hb.block (w.heap.size + 1) (by omega)).trans e1), hb⟩
  have dP : ∀ W, ((∀ j, (W).cell? ⟨w.heap.size, j, none⟩ = ((#[.int .i64 k, .bool t, .bool ng, .string ds, .int .i64 ex, .string tx, .slice A n c, .slice B m d] : Array Value))[j]?) ∧ (∀ j, (W).cell? ⟨w.heap.size + 1, j, none⟩ = ((#[.int .i64 k', .bool t', .bool ng', .string ds', .int .i64 ex', .string tx', .slice A' n' c', .slice B' m' d'] : Array Value))[j]?) ∧ Below W2.heap.size W2 (W)) → Calls Tryz.prog 29 #[.agg #[.int .i64 k, .bool t, .bool ng, .string ds, .int .i64 ex, .string tx, .slice A n c, .slice B m d]] W fun e W => e = .returned (.string P1) ∧ ((∀ j, (W).cell? ⟨w.heap.size, j, none⟩ = ((#[.int .i64 k, .bool t, .bool ng, .string ds, .int .i64 ex, .string tx, .slice A n c, .slice B m d] : Array Value))[j]?) ∧ (∀ j, (W).cell? ⟨w.heap.size + 1, j, none⟩ = ((#[.int .i64 k', .bool t', .bool ng', .string ds', .int .i64 ex', .string tx', .slice A' n' c', .slice B' m' d'] : Array Value))[j]?) ∧ Below W2.heap.size W2 (W)) := fun W h => (cP W (hB0.trans (h.2.2.mono (by omega)))).mono (fun e w' h' => ⟨h'.1, hS _ (h.2.2.trans (h'.2.mono h.2.2.size))⟩)
  have dP' : ∀ W, ((∀ j, (W).cell? ⟨w.heap.size, j, none⟩ = ((#[.int .i64 k, .bool t, .bool ng, .string ds, .int .i64 ex, .string tx, .slice A n c, .slice B m d] : Array Value))[j]?) ∧ (∀ j, (W).cell? ⟨w.heap.size + 1, j, none⟩ = ((#[.int .i64 k', .bool t', .bool ng', .string ds', .int .i64 ex', .string tx', .slice A' n' c', .slice B' m' d'] : Array Value))[j]?) ∧ Below W2.heap.size W2 (W)) → Calls Tryz.prog 29 #[.agg #[.int .i64 k', .bool t', .bool ng', .string ds', .int .i64 ex', .string tx', .slice A' n' c', .slice B' m' d']] W fun e W => e = .returned (.string P2) ∧ ((∀ j, (W).cell? ⟨w.heap.size, j, none⟩ = ((#[.int .i64 k, .bool t, .bool ng, .string ds, .int .i64 ex, .string tx, .slice A n c, .slice B m d] : Array Value))[j]?) ∧ (∀ j, (W).cell? ⟨w.heap.size + 1, j, none⟩ = ((#[.int .i64 k', .bool t', .bool ng', .string ds', .int .i64 ex', .string tx', .slice A' n' c', .slice B' m' d'] : Array Value))[j]?) ∧ Below W2.heap.size W2 (W)) := fun W h => (cP' W (hB0.trans (h.2.2.mono (by omega)))).mono (fun e w' h' => ⟨h'.1, hS _ (h.2.2.trans (h'.2.mono h.2.2.size))⟩)
  have h0 := hS _ (Below.refl _ _)
  have h0' : ((∀ j, (((w.alloc (.cells #[.int .i64 k, .bool t, .bool ng, .string ds, .int .i64 ex, .string tx, .slice A n c, .slice B m d] 27)).alloc (.cells #[.int .i64 k', .bool t', .bool ng', .string ds', .int .i64 ex', .string tx', .slice A' n' c', .slice B' m' d'] 27)).drew).cell? ⟨w.heap.size, j, none⟩ = ((#[.int .i64 k, .bool t, .bool ng, .string ds, .int .i64 ex, .string tx, .slice A n c, .slice B m d] : Array Value))[j]?) ∧ (∀ j, (((w.alloc (.cells #[.int .i64 k, .bool t, .bool ng, .string ds, .int .i64 ex, .string tx, .slice A n c, .slice B m d] 27)).alloc (.cells #[.int .i64 k', .bool t', .bool ng', .string ds', .int .i64 ex', .string tx', .slice A' n' c', .slice B' m' d'] 27)).drew).cell? ⟨w.heap.size + 1, j, none⟩ = ((#[.int .i64 k', .bool t', .bool ng', .string ds', .int .i64 ex', .string tx', .slice A' n' c', .slice B' m' d'] : Array Value))[j]?) ∧ Below W2.heap.size W2 (((w.alloc (.cells #[.int .i64 k, .bool t, .bool ng, .string ds, .int .i64 ex, .string tx, .slice A n c, .slice B m d] 27)).alloc (.cells #[.int .i64 k', .bool t', .bool ng', .string ds', .int .i64 ex', .string tx', .slice A' n' c', .slice B' m' d'] 27)).drew)) := by rw [hW2]; exact h0
  replace hW2 := Aside0.mk hW2
  replace hB0 := Aside0.mk hB0
  clear hS cP cP' e0 e1 h0
  go_enter Tryz.func30, Tryz.ntmps30
  go_wp2_with fail
  go_region_with (first
    | (go_at_call 29; refine (dP' _ ⟨hc2, hc3, hb2⟩).mono ?_; rintro e w2 ⟨rfl, hc4, hc5, hb3⟩)
    | (go_at_call 29; refine (dP _ h0').mono ?_; rintro e w1 ⟨rfl, hc2, hc3, hb2⟩))
  all_goals (go_wp2_with fail)
  all_goals go_ret
  all_goals refine ⟨?_, hB0.out.trans (hb3.mono (by omega))⟩
  all_goals simp [Act.put, go_sem]
  all_goals exact bytes_beq P1 P2
/-- **json.Same.** -/
theorem same_any (x y : JV) (w : World) (cs cs' : List Value) (hK : kV.K w x cs) (hK' : kV.K w y cs') (hF : Facts w) (hwt : x.wt ≤ 1073741824) (hin : x.ints) (hwt' : y.wt ≤ 1073741824) (hin' : y.ints) :
    Calls Tryz.prog 30 #[.agg cs.toArray, .agg cs'.toArray] w fun e w' => e = .returned (.bool (decide (x.print = y.print))) ∧ Below w.heap.size w w' := by
  have hX : decide (x.print = y.print) = decide ((⟨x.print.toArray⟩ : ByteArray) = ⟨y.print.toArray⟩) := by
    congr 1
    exact propext ⟨fun e => by rw [e], fun e => by injection e with e; exact List.toArray_inj e⟩
  obtain ⟨A, c, B, d, rfl, _⟩ := VC.of hK
  obtain ⟨A', c', B', d', rfl, _⟩ := VC.of hK'
  rw [hX]
  exact same_core w _ _ _ _ _ _ _ _ _ _ _ _ A B A' B' _ c _ d _ c' _ d' _ _ (fun W hb => print_any x W _ (kV.K_below hb hK) (hF.below hb) hwt hin) (fun W hb => print_any y W _ (kV.K_below hb hK') (hF.below hb) hwt' hin')
end Go.Proofs.YtkdeleafgailhaaGreatDoor
end
section
set_option linter.unusedVariables false
set_option linter.unusedSimpArgs false
namespace Go.Proofs.YtkdeleafgailhaaGreatDoor
open Go Go.RowKit Go.Proofs.YtkdeleafgailhaaGreatDoorW.PrintWords

def atL (k : Int) (l : List JV) (i : Int) : JV × Bool := if k = 4 ∧ 0 ≤ i ∧ i < (l.length : Int) then ((l.getD i.toNat JV.nul).norm, true) else (JV.nul, false)
def JV.at_ (x : JV) (i : Int) : JV × Bool := atL x.kind x.list i
def getF (l : List JF) (nm : ByteArray) : JV × Bool := match l.find? (fun f => decide (clean f.name = nm)) with | some f => (f.value.norm, true) | none => (JV.nul, false)
def getK (k : Int) (l : List JF) (name : ByteArray) : JV × Bool := if k = 5 then getF l (clean name) else (JV.nul, false)
def JV.get_ (x : JV) (name : ByteArray) : JV × Bool := getK x.kind x.fields name

end Go.Proofs.YtkdeleafgailhaaGreatDoor
end
section
set_option linter.unusedVariables false
set_option linter.unusedSimpArgs false
namespace Go.Proofs.YtkdeleafgailhaaGreatDoor
open Go Go.RowKit Go.Proofs.YtkdeleafgailhaaGreatDoorW.PrintWords

mutual
def JV.deep : JV → Nat
  | .mk k _ _ _ _ _ l f => if k = 4 then 1 + JV.deepL l else if k = 5 then 1 + JV.deepF f else 0
def JV.deepL : List JV → Nat
  | [] => 0
  | x :: xs => max x.deep (JV.deepL xs)
def JV.deepF : List JF → Nat
  | [] => 0
  | .mk _ v :: xs => max v.deep (JV.deepF xs)
end
theorem deepL_snoc : ∀ (a : List JV) (x : JV), JV.deepL (a ++ [x]) = max (JV.deepL a) x.deep
  | [], x => by simp [JV.deepL]
  | y :: a, x => by
    show JV.deepL (y :: (a ++ [x])) = _
    rw [JV.deepL, JV.deepL, deepL_snoc a x]; omega
theorem deepF_snoc : ∀ (a : List JF) (x : JF), JV.deepF (a ++ [x]) = max (JV.deepF a) x.value.deep
  | [], .mk _ v => by simp [JV.deepF, JF.value]
  | .mk nm v :: a, x => by
    show JV.deepF (.mk nm v :: (a ++ [x])) = _
    rw [JV.deepF, JV.deepF, deepF_snoc a x]; omega
mutual
theorem deep_wt : ∀ (x : JV), x.deep ≤ x.wt
  | .mk k t ng ds ex tx l f => by
    rw [JV.deep, JV.wt]
    have := deepL_wt l
    have := deepF_wt f
    split
    · omega
    · split <;> omega
theorem deepL_wt : ∀ (l : List JV), JV.deepL l ≤ JV.wtL l
  | [] => by rw [JV.deepL]; omega
  | x :: l => by
    rw [JV.deepL, JV.wtL]
    have := deep_wt x
    have := deepL_wt l
    omega
theorem deepF_wt : ∀ (l : List JF), JV.deepF l ≤ JV.wtF l
  | [] => by rw [JV.deepF]; omega
  | .mk nm v :: l => by
    rw [JV.deepF, JV.wtF]
    have := deep_wt v
    have := deepF_wt l
    omega
end
/-- deep itself, as its variable holds it. -/
def cloD (g : Nat) : Value := .func (.func 36) #[] #[.pointer (some ⟨g, 0, none⟩)]
def DeepOK (x : JV) : Prop := ∀ (g : Nat) (w : World) (cs : List Value), kV.K w x cs → w.heap[g]? = some (.cells #[cloD g] 40 (0, 0)) → x.wt ≤ 4294967296 →
  Calls Tryz.prog 36 #[.agg cs.toArray, .pointer (some ⟨g, 0, none⟩)] w fun e w' => e = .returned (.int .i64 x.deep) ∧ Below w.heap.size w w'

set_option maxRecDepth 100000 in
set_option maxHeartbeats 4000000 in
theorem deep_list (g : Nat) (w : World) (t ng : Bool) (ds tx : ByteArray) (ex : Int) (A B : Option Addr) (n c m d : Nat) (xs : List JV) (hn : n ≤ 4294967296) (hC : kV.C w A n xs) (hg : w.heap[g]? = some (.cells #[cloD g] 40 (0, 0))) (hok : ∀ y ∈ xs, DeepOK y) (hwt : JV.wtL xs ≤ 4294967296) :
    Calls Tryz.prog 36 #[.agg #[.int .i64 4, .bool t, .bool ng, .string ds, .int .i64 ex, .string tx, .slice A n c, .slice B m d], .pointer (some ⟨g, 0, none⟩)] w fun e w' => e = .returned (.int .i64 ((1 + JV.deepL xs : Nat) : Int)) ∧ Below w.heap.size w w' := by
  have hlen := hC.1
  have hb0 := (Below.refl _ w).alloc (Nat.le_refl _) (.cells #[.int .i64 4, .bool t, .bool ng, .string ds, .int .i64 ex, .string tx, .slice A n c, .slice B m d] 27)
  have hdw := deepL_wt xs
  replace hlen := Aside0.mk hlen
  replace hg := Aside0.mk hg
  go_enter Tryz.func36, Tryz.ntmps36
  go_wp2_with fail
  go_loopw [4, 16] (fun q i wr => ∃ j : Nat, i = .int .i64 j ∧ q = .int .i64 ((JV.deepL (xs.take j) : Nat) : Int) ∧ j ≤ n ∧ Below w.heap.size w wr) (fun _ i _ => n - (intOf i).toNat)
  case atStart => exact ⟨0, rfl, by simp [JV.deepL], Nat.zero_le _, hb0⟩
  case round =>
    obtain ⟨j, rfl, rfl, hj, hB⟩ := hrel
    have hda := deepL_wt (xs.take j)
    have hdb : JV.wtL (xs.take j) ≤ JV.wtL xs := by
      have : JV.wtL xs = JV.wtL (xs.take j) + JV.wtL (xs.drop j) := by rw [← wtL_app, List.take_append_drop]
      omega
    by_cases hlt : j < n
    · obtain ⟨ad, x, A6, c6, A7, c7, rfl, hx, hcs, l6, g6, l7, g7⟩ := at_V (Kd.C_below hC hB) j hlt
      have hK := kV_mkK l6 g6 l7 g7
      unfold JV.cells at hcs hK
      obtain ⟨q0, q1, q2, q3, q4, q5, q6, q7, _⟩ := hcs
      have hxm : x ∈ xs := List.mem_of_getElem? hx
      have hwx := wt_memL hxm
      have hnx := hok x hxm
      have hdx := deep_wt x
      have hb3 := (Below.refl _ wr).alloc (Nat.le_refl _) (.cells #[.int .i64 x.kind, .bool x.truth, .bool x.neg, .string x.digits, .int .i64 x.exp, .string x.text, .slice A6 x.list.length c6, .slice A7 x.fields.length c7] 27)
      have hgl : g < w.heap.size := (Array.getElem?_eq_some_iff.1 hg.out).1
      have hgr := (hB.block g hgl).trans hg.out
      have hg3 := (hb3.block g (by have := hB.size; omega)).trans hgr
      have hcg := cellAll hg3
      have cD := hnx g _ _ (kV.K_below hb3 hK) hg3 (by omega)
      unfold cloD at hcg
      have hsn : JV.deepL (xs.take (j + 1)) = max (JV.deepL (xs.take j)) x.deep := by
        rw [List.take_add_one, hx, Option.toList_some, deepL_snoc]
      replace hsn := Aside0.mk hsn
      replace hx := Aside0.mk hx
      replace hb3 := Aside0.mk hb3
      clear hK hgr hg3 hnx hxm
      generalize JV.deepL (xs.take j) = a at *
      generalize x.deep = b at *
      go_wp2_with (go_at_call 36; refine cD.mono ?_; rintro e w1 ⟨rfl, hb4⟩)
      go_roundw
      case rel =>
        refine ⟨j + 1, by go_num, ?_, by omega, (hB.trans (hb3.out.mono hB.size)).trans (hb4.mono (by have := hB.size; simp; omega))⟩
        rw [hsn.out]
        congr 1
        omega
      case measure => simp [intOf]; omega
    · obtain rfl : j = n := by omega
      have htk : xs.take j = xs := by rw [← hlen.out, List.take_length]
      rw [htk]
      go_wp2_with fail
      go_ret
      exact ⟨by congr 2, hB⟩

set_option maxRecDepth 100000 in
set_option maxHeartbeats 4000000 in
theorem deep_fields (g : Nat) (w : World) (t ng : Bool) (ds tx : ByteArray) (ex : Int) (A B : Option Addr) (n c m d : Nat) (xs : List JF) (hn : n ≤ 4294967296) (hC : kF.C w A n xs) (hg : w.heap[g]? = some (.cells #[cloD g] 40 (0, 0))) (hok : ∀ y ∈ xs, DeepOK y.value) (hwt : JV.wtF xs ≤ 4294967296) :
    Calls Tryz.prog 36 #[.agg #[.int .i64 5, .bool t, .bool ng, .string ds, .int .i64 ex, .string tx, .slice B m d, .slice A n c], .pointer (some ⟨g, 0, none⟩)] w fun e w' => e = .returned (.int .i64 ((1 + JV.deepF xs : Nat) : Int)) ∧ Below w.heap.size w w' := by
  have hlen := hC.1
  have hb0 := (Below.refl _ w).alloc (Nat.le_refl _) (.cells #[.int .i64 5, .bool t, .bool ng, .string ds, .int .i64 ex, .string tx, .slice B m d, .slice A n c] 27)
  have hdw := deepF_wt xs
  replace hlen := Aside0.mk hlen
  replace hg := Aside0.mk hg
  go_enter Tryz.func36, Tryz.ntmps36
  go_wp2_with fail
  go_loopw [4, 31] (fun q i wr => ∃ j : Nat, i = .int .i64 j ∧ q = .int .i64 ((JV.deepF (xs.take j) : Nat) : Int) ∧ j ≤ n ∧ Below w.heap.size w wr) (fun _ i _ => n - (intOf i).toNat)
  case atStart => exact ⟨0, rfl, by simp [JV.deepF], Nat.zero_le _, hb0⟩
  case round =>
    obtain ⟨j, rfl, rfl, hj, hB⟩ := hrel
    have hda := deepF_wt (xs.take j)
    have hdb : JV.wtF (xs.take j) ≤ JV.wtF xs := by
      have : JV.wtF xs = JV.wtF (xs.take j) + JV.wtF (xs.drop j) := by rw [← wtF_app, List.take_append_drop]
      omega
    by_cases hlt : j < n
    · obtain ⟨ad, x, A6, c6, A7, c7, rfl, hx, hcs, l6, g6, l7, g7⟩ := at_F (Kd.C_below hC hB) j hlt
      have hK := kV_mkK l6 g6 l7 g7
      unfold JV.cells at hcs hK
      obtain ⟨q0, q1, q2, q3, q4, q5, q6, q7, q8, _⟩ := hcs
      have hxm : x ∈ xs := List.mem_of_getElem? hx
      have hwx := wt_memF hxm
      have hnx := hok x hxm
      have hdx := deep_wt x.value
      have hb3 := (Below.refl _ wr).alloc (Nat.le_refl _) (.cells #[.string x.name, .int .i64 x.value.kind, .bool x.value.truth, .bool x.value.neg, .string x.value.digits, .int .i64 x.value.exp, .string x.value.text, .slice A6 x.value.list.length c6, .slice A7 x.value.fields.length c7] 69)
      have hgl : g < w.heap.size := (Array.getElem?_eq_some_iff.1 hg.out).1
      have hgr := (hB.block g hgl).trans hg.out
      have hg3 := (hb3.block g (by have := hB.size; omega)).trans hgr
      have hcg := cellAll hg3
      have cD := hnx g _ _ (kV.K_below hb3 hK) hg3 (by omega)
      unfold cloD at hcg
      have hsn : JV.deepF (xs.take (j + 1)) = max (JV.deepF (xs.take j)) x.value.deep := by
        rw [List.take_add_one, hx, Option.toList_some, deepF_snoc]
      replace hsn := Aside0.mk hsn
      replace hx := Aside0.mk hx
      replace hb3 := Aside0.mk hb3
      clear hK hgr hg3 hnx hxm
      generalize JV.deepF (xs.take j) = a at *
      generalize x.value.deep = b at *
      go_wp2_with (go_at_call 36; refine cD.mono ?_; rintro e w1 ⟨rfl, hb4⟩)
      go_roundw
      case rel =>
        refine ⟨j + 1, by go_num, ?_, by omega, (hB.trans (hb3.out.mono hB.size)).trans (hb4.mono (by have := hB.size; simp; omega))⟩
        rw [hsn.out]
        congr 1
        omega
      case measure => simp [intOf]; omega
    · obtain rfl : j = n := by omega
      have htk : xs.take j = xs := by rw [← hlen.out, List.take_length]
      rw [htk]
      go_wp2_with fail
      go_ret
      exact ⟨by congr 2, hB⟩

set_option maxRecDepth 100000 in
set_option maxHeartbeats 4000000 in
theorem deep_rest (g : Nat) (w : World) (k : Int) (t ng : Bool) (ds tx : ByteArray) (ex : Int) (A B : Option Addr) (n c m d : Nat) (h4 : ¬ k = 4) (h5 : ¬ k = 5) :
    Calls Tryz.prog 36 #[.agg #[.int .i64 k, .bool t, .bool ng, .string ds, .int .i64 ex, .string tx, .slice A n c, .slice B m d], .pointer (some ⟨g, 0, none⟩)] w fun e w' => e = .returned (.int .i64 0) ∧ Below w.heap.size w w' := by
  have hb0 := (Below.refl _ w).alloc (Nat.le_refl _) (.cells #[.int .i64 k, .bool t, .bool ng, .string ds, .int .i64 ex, .string tx, .slice A n c, .slice B m d] 27)
  have b4 : (k == 4) = false := by simpa using h4
  have b5 : (k == 5) = false := by simpa using h5
  go_enter Tryz.func36, Tryz.ntmps36
  go_wp2_with fail
  go_ret
  exact ⟨rfl, hb0⟩
theorem deep_step (x : JV) (hl : ∀ y ∈ x.list, DeepOK y) (hf : ∀ f ∈ x.fields, DeepOK f.value) : DeepOK x := by
  intro g w cs hK hg hwt
  obtain ⟨A, c, B, d, rfl, hV⟩ := VC.of hK
  obtain ⟨k, t, ng, ds, ex, tx, l, f⟩ := x
  obtain ⟨_, hlc, hCl, hfc, hCf⟩ := hV
  have hl1 := wtL_len l
  have hl2 := wtF_len f
  rw [JV.wt] at hwt
  rw [JV.deep]
  unfold JV.cells
  simp only [JV.kind, JV.truth, JV.neg, JV.digits, JV.exp, JV.text, JV.list, JV.fields] at *
  by_cases h4 : k = 4
  · rw [if_pos h4]; subst h4
    exact deep_list g w t ng ds tx ex A B _ c _ d l (by omega) hCl hg hl (by omega)
  rw [if_neg h4]
  by_cases h5 : k = 5
  · rw [if_pos h5]; subst h5
    exact deep_fields g w t ng ds tx ex B A _ d _ c f (by omega) hCf hg hf (by omega)
  rw [if_neg h5]
  exact deep_rest g w k t ng ds tx ex A B _ c _ d h4 h5
theorem deep_all : ∀ (n : Nat) (x : JV), x.wt ≤ n → DeepOK x
  | 0, .mk k t ng ds ex tx l f, h => by rw [JV.wt] at h; omega
  | n + 1, .mk k t ng ds ex tx l f, h => by
    rw [JV.wt] at h
    exact deep_step _ (fun y hy => deep_all n y (by have := wt_memL hy; simp only [JV.list] at this; omega)) (fun g hg => deep_all n _ (by have := wt_memF hg; simp only [JV.fields] at this; omega))
theorem deep_any (x : JV) : DeepOK x := deep_all _ x (Nat.le_refl _)

set_option maxRecDepth 100000 in
set_option maxHeartbeats 4000000 in
/-- **json.Depth.** -/
theorem depth_any (x : JV) (w : World) (cs : List Value) (hK : kV.K w x cs) (hF : Facts w) (hwt : x.wt ≤ 1073741824) (hin : x.ints) :
    Calls Tryz.prog 12 #[.agg cs.toArray] w fun e w' => e = .returned (.int .i64 x.norm.deep) ∧ Below w.heap.size w w' := by
  obtain ⟨A, c, B, d, rfl, _⟩ := VC.of hK
  have hB0 := below_drew (((Below.refl _ w).alloc (Nat.le_refl _) (.cells #[.int .i64 x.kind, .bool x.truth, .bool x.neg, .string x.digits, .int .i64 x.exp, .string x.text, .slice A x.list.length c, .slice B x.fields.length d] 27)).alloc (by simp) (.cells #[.func (.func 36) #[] #[.pointer (some ⟨w.heap.size + 1, 0, none⟩)]] 40))
  obtain ⟨e0, e1⟩ := boxes w (.cells #[.int .i64 x.kind, .bool x.truth, .bool x.neg, .string x.digits, .int .i64 x.exp, .string x.text, .slice A x.list.length c, .slice B x.fields.length d] 27) (.cells #[.func (.func 36) #[] #[.pointer (some ⟨w.heap.size + 1, 0, none⟩)]] 40)
  have hs2 : ((w.alloc (.cells #[.int .i64 x.kind, .bool x.truth, .bool x.neg, .string x.digits, .int .i64 x.exp, .string x.text, .slice A x.list.length c, .slice B x.fields.length d] 27)).alloc (.cells #[.func (.func 36) #[] #[.pointer (some ⟨w.heap.size + 1, 0, none⟩)]] 40)).drew.heap.size = w.heap.size + 2 := by simp [World.drew]
  unfold JV.cells at *
  have cN := norm_any x _ _ (kV.K_below hB0 hK) (hF.below hB0) (by omega) hin
  have hnw := norm_wt x
  have cD := deep_any x.norm
  replace hB0 := Aside0.mk hB0
  replace e1 := Aside0.mk e1
  replace hs2 := Aside0.mk hs2
  replace cD := Aside0.mk cD
  clear hK hF e0
  go_enter Tryz.func12, Tryz.ntmps12
  go_wp2_with fail
  go_region_with (first
    | (go_at_call 36; refine (cD.out _ w1 _ hM1.out hg1.out (by omega)).mono ?_; rintro e w2 ⟨rfl, hb2⟩)
    | (go_at_call 9; refine cN.mono ?_; rintro e w1 ⟨cs', rfl, hM, hb1⟩; rw [hs2.out] at hb1; have hg1 := (hb1.block (w.heap.size + 1) (by omega)).trans e1.out; have hcg := cellAll hg1; replace hg1 := Aside0.mk hg1; have hM1 := kV.K_of_M hM; obtain ⟨vl, vf, rfl, hRl, hRf⟩ := kV_openM hM; obtain ⟨Al, cl, rfl⟩ := Kd.R_slice hRl; obtain ⟨Af, cf, rfl⟩ := Kd.R_slice hRf; unfold JV.cells at hM1; unfold JV.cells; clear hRl hRf hM; replace hM1 := Aside0.mk hM1))
  all_goals (go_wp2_with fail)
  all_goals go_ret
  all_goals refine ⟨?_, hB0.out.trans ((hb1.mono (by omega)).trans (hb2.mono (by have := hb1.size; rw [hs2.out] at this; omega)))⟩
  all_goals simp [Act.put, go_sem]
end Go.Proofs.YtkdeleafgailhaaGreatDoor
end
section
set_option linter.unusedVariables false
set_option linter.unusedSimpArgs false
namespace Go.Proofs.YtkdeleafgailhaaGreatDoor
open Go Go.RowKit Go.Proofs.YtkdeleafgailhaaGreatDoorW.PrintWords

/-! ### plain -/
/-- The byte at a place; 0: there is none. -/
def byteAt (s : ByteArray) (i : Nat) : Nat := if h : i < s.size then (s[i]'h).toNat else 0
def isGap (c : Nat) : Bool := c == 32 || c == 9 || c == 10 || c == 13
/-- Where the blanks from i on end. -/
def gapTo (s : ByteArray) (i : Nat) : Nat := if i < s.size ∧ isGap (byteAt s i) = true then gapTo s (i + 1) else i
termination_by s.size - i
theorem gapTo_le (s : ByteArray) (i : Nat) : i ≤ gapTo s i := by
  unfold gapTo
  split
  · have := gapTo_le s (i + 1); omega
  · omega
termination_by s.size - i
theorem gapTo_size (s : ByteArray) (i : Nat) (h : i ≤ s.size) : gapTo s i ≤ s.size := by
  unfold gapTo
  split
  · exact gapTo_size s (i + 1) (by omega)
  · exact h
termination_by s.size - i
theorem byteAt_lt (s : ByteArray) (i : Nat) : byteAt s i < 256 := by
  unfold byteAt
  split
  · exact UInt8.toNat_lt _
  · omega
set_option maxRecDepth 100000 in
theorem gap_index (u : UInt8) : (decide (0 ≤ Lib.indexByte [32, 9, 10, 13] u)) = isGap u.toNat := by
  have key : ∀ n : Fin 256, (decide (0 ≤ Lib.indexByte [32, 9, 10, 13] (UInt8.ofNat n.val))) = isGap n.val := by decide
  have := key ⟨u.toNat, u.toNat_lt⟩
  simpa using this

/-! ### in memory -/
theorem drewN_two (w : World) (n m : Nat) : (w.drewN n).drewN m = w.drewN (n + m) := World.drewN_drewN ..
/-- The reader's block. -/
def Rd (s : ByteArray) (i o : Nat) (r : Nat) (w : World) : Prop := w.heap[r]? = some (.cells #[.string s, .int .i64 i, .int .i64 o] 92 (0, 0))
theorem Rd.lt {s : ByteArray} {i o r : Nat} {w : World} (h : Rd s i o r w) : r < w.heap.size := (Array.getElem?_eq_some_iff.1 h).1
theorem Rd.below {s : ByteArray} {i o r : Nat} {w w' : World} (h : Rd s i o r w) (hb : Below w.heap.size w w') : Rd s i o r w' := (hb.block r h.lt).trans h

set_option maxRecDepth 100000 in
set_option maxHeartbeats 4000000 in
theorem next_any (s : ByteArray) (i o r : Nat) (w : World) (h : Rd s i o r w) (hs : s.size ≤ 4294967296) (hi : i ≤ 4294967296) :
    Calls Tryz.prog 81 #[.pointer (some ⟨r, 0, none⟩)] w fun e w' => e = .returned (.int .u8 (byteAt s i)) ∧ ∃ n, w' = w.drewN n := by
  have hc := cellAll h
  by_cases hl : i < s.size
  · have hbt : (byteAt s i : Int) = ((s[i]'hl).toNat : Int) := by unfold byteAt; rw [dif_pos hl]
    rw [hbt]
    have hl2 : (i : Int) < (s.size : Int) := by omega
    go_enter Tryz.func81, Tryz.ntmps81
    go_wp2_with fail
    go_quiet (fail)
    go_wp2_with fail
    go_quiet (fail)
    go_wp2_with fail
    go_ret
    exact ⟨rfl, _, drewN_two _ _ _⟩
  · have hbt : byteAt s i = 0 := by unfold byteAt; rw [dif_neg hl]
    rw [hbt]
    go_enter Tryz.func81, Tryz.ntmps81
    go_wp2_with fail
    go_quiet (fail)
    go_wp2_with fail
    go_ret
    exact ⟨rfl, _, rfl⟩

/-- Only the reader's block has been written, and blocks made. -/
def Read (r : Nat) (w w' : World) : Prop := w.grownBy w' (some r)
theorem Rd.drewN {s : ByteArray} {i o r : Nat} {w : World} (h : Rd s i o r w) (n : Nat) : Rd s i o r (w.drewN n) := h
theorem Rd.at_ {s : ByteArray} {i o r : Nat} {w : World} (h : Rd s i o r w) (i' : Nat) : Rd s i' o r (w.setCell ⟨r, 1, none⟩ (.int .i64 i')) := blk_set h 1 (.int .i64 i')
theorem Rd.open_ {s : ByteArray} {i o r : Nat} {w : World} (h : Rd s i o r w) (o' : Nat) : Rd s i o' r (w.setCell ⟨r, 2, none⟩ (.int .i64 o')) := blk_set h 2 (.int .i64 o')
theorem Read.trans {r : Nat} {a b c : World} (h : Read r a b) (k : Read r b c) : Read r a c :=
  ⟨k.os.trans h.os, k.tape.trans h.tape, k.output.trans h.output, Nat.le_trans h.size k.size, fun i hi hr => (k.block i (Nat.lt_of_lt_of_le hi h.size) hr).trans (h.block i hi hr)⟩
theorem Read.drewN {r : Nat} {a b : World} (h : Read r a b) (n : Nat) : Read r a (b.drewN n) := ⟨h.os, h.tape, h.output, h.size, h.block⟩
theorem Read.of_below {r : Nat} {a b : World} (h : Below a.heap.size a b) : Read r a b := ⟨h.os, h.tape, h.output, h.size, fun i hi _ => h.block i hi⟩
theorem Read.set_ {r : Nat} {a b : World} (h : Read r a b) (j : Nat) (v : Value) : Read r a (b.setCell ⟨r, j, none⟩ v) := by
  have hk : KeepBut a (b.setCell ⟨r, j, none⟩ v) r none := KeepBut.set_ ⟨h.size, fun i hi hne _ => h.block i hi (by intro e; injection e with e; exact hne e)⟩ j v
  have hb : Below 0 b (b.setCell ⟨r, j, none⟩ v) := (Below.refl 0 b).setCell (Nat.zero_le _) _
  exact ⟨hb.os.trans h.os, hb.tape.trans h.tape, hb.output.trans h.output, hk.1, fun i hi hne => hk.2 i hi (by rintro rfl; exact hne rfl) (by simp)⟩
theorem Read.refl (r : Nat) (w : World) : Read r w w := ⟨rfl, rfl, rfl, Nat.le_refl _, fun _ _ _ => rfl⟩

def rdAt (r : Nat) (w : World) : Nat := match w.cell? ⟨r, 1, none⟩ with | some v => (intOf v).toNat | none => 0
theorem Rd.at_eq {s : ByteArray} {i o r : Nat} {w : World} (h : Rd s i o r w) : rdAt r w = i := by
  unfold rdAt
  rw [cellAll h 1]
  simp [intOf]

set_option maxRecDepth 100000 in
set_option maxHeartbeats 4000000 in
theorem gap_any (s : ByteArray) (i o r : Nat) (w : World) (h : Rd s i o r w) (hs : s.size ≤ 4294967296) (hi : i ≤ s.size) :
    Calls Tryz.prog 57 #[.pointer (some ⟨r, 0, none⟩)] w fun e w' => e = .returned (.tuple #[]) ∧ Rd s (gapTo s i) o r w' ∧ Read r w w' := by
  go_enter Tryz.func57, Tryz.ntmps57
  go_wp2_with fail
  go_loopw [] (fun wr => ∃ j, Rd s j o r wr ∧ Read r w wr ∧ j ≤ s.size ∧ Aside0 (gapTo s j = gapTo s i)) (fun wr => s.size - rdAt r wr)
  case atStart => exact ⟨i, h, Read.refl _ _, hi, ⟨rfl⟩⟩
  case round =>
    obtain ⟨j, hR, hW, hj, hg⟩ := hrel
    have hc := cellAll hR
    have hf := frozenAll hR
    by_cases hl : j < s.size
    · have hl2 : (j : Int) < (s.size : Int) := by omega
      have hbt : (s[j]'hl).toNat = byteAt s j := by unfold byteAt; rw [dif_pos hl]
      have hgi := gap_index (s[j]'hl)
      have hIB := fun W => Tryz.strings_IndexByte ⟨#[32, 9, 10, 13]⟩ ((s[j]'hl).toNat : Int) W
      have hub : (((s[j]'hl).toNat : Int).toNat).toUInt8 = s[j]'hl := by simp
      rw [hub] at hIB
      have hlist : (⟨#[32, 9, 10, 13]⟩ : ByteArray).data.toList = [32, 9, 10, 13] := rfl
      rw [hlist] at hIB
      generalize Lib.indexByte [32, 9, 10, 13] (s[j]'hl) = q at hgi hIB
      rw [hbt] at hgi
      have hIQ : ∀ W, Calls Tryz.prog 80 #[.string ⟨#[32, 9, 10, 13]⟩, .int .u8 ((s[j]'hl).toNat : Int)] W fun e w' => e = .returned (.int .i64 q) ∧ ∃ n, w' = W.drewN n := fun W => (hIB W).mono (fun e w' h => ⟨h.1, 0, h.2⟩)
      clear hIB
      have hstep : gapTo s j = if isGap (byteAt s j) = true then gapTo s (j + 1) else j := by
        rw [gapTo]
        by_cases hb : isGap (byteAt s j) = true
        · rw [if_pos ⟨hl, hb⟩, if_pos hb]
        · rw [if_neg (fun h => hb h.2), if_neg hb]
      cases hb : isGap (byteAt s j) with
      | true =>
        rw [hb] at hgi
        rw [hb, if_pos rfl] at hstep
        have hq : 0 ≤ q := of_decide_eq_true hgi
        replace hstep := Aside0.mk hstep
        replace hb := Aside0.mk hb
        clear hub hbt hlist
        go_wp2_with fail
        go_quiet ((go_at_call 80; exact Calls.quiet_of (hIQ _)))
        go_wp2_with fail
        have hR2 := (hR.drewN nq).at_ (j + 1)
        have e1 : (((j + 1 : Nat) : Int)) = (j : Int) + 1 := by omega
        rw [e1] at hR2
        refine ⟨⟨j + 1, hR2, (hW.drewN nq).set_ 1 _, by omega, ⟨?_⟩⟩, ?_⟩
        · rw [← hstep.out]; exact hg.out
        · rw [hR2.at_eq, hR.at_eq]; omega
      | false =>
        rw [hb] at hgi
        rw [hb, if_neg (by simp)] at hstep
        have hq : ¬ 0 ≤ q := of_decide_eq_false hgi
        replace hstep := Aside0.mk hstep
        replace hb := Aside0.mk hb
        clear hub hbt hlist
        go_wp2_with fail
        go_quiet ((go_at_call 80; exact Calls.quiet_of (hIQ _)))
        go_wp2_with fail
        go_end0
        refine ⟨rfl, ?_, hW.drewN _⟩
        rw [← hg.out, hstep.out]
        exact hR
    · have hstep : gapTo s j = j := by rw [gapTo, if_neg (fun h => hl h.1)]
      replace hstep := Aside0.mk hstep
      have hl2 : decide ((j : Int) < (s.size : Int)) = false := by simpa using hl
      have hl3 : (s.size : Int) ≤ (j : Int) := by omega
      go_wp2_with fail
      go_quiet (fail)
      go_wp2_with fail
      go_end0
      refine ⟨rfl, ?_, hW.drewN _⟩
      rw [← hg.out, hstep.out]
      exact hR
end Go.Proofs.YtkdeleafgailhaaGreatDoor
end
section
set_option linter.unusedVariables false
set_option linter.unusedSimpArgs false
namespace Go.Proofs.YtkdeleafgailhaaGreatDoor
open Go Go.RowKit Go.Proofs.YtkdeleafgailhaaGreatDoorW.PrintWords

/-- e is a *api.Fault of this place and error, of no path. -/
def IsFault (e : Value) (at_ : Int) (err : Value) (w : World) : Prop := ∃ k, e = .iface 94 (.pointer (some ⟨k, 0, none⟩)) ∧ w.heap[k]? = some (.cells #[.int .i64 at_, .string ⟨#[]⟩, err] 98 (0, 0))
theorem IsFault.below {e : Value} {at_ : Int} {err : Value} {w w' : World} (h : IsFault e at_ err w) (hb : Below w.heap.size w w') : IsFault e at_ err w' := by
  obtain ⟨k, he, hk⟩ := h
  exact ⟨k, he, (hb.block k (Array.getElem?_eq_some_iff.1 hk).1).trans hk⟩

set_option maxRecDepth 100000 in
set_option maxHeartbeats 4000000 in
theorem fail_any (at_ : Int) (tt : TypeId) (p : Value) (w : World) :
    Calls Tryz.prog 56 #[.int .i64 at_, .iface tt p] w fun e w' => ∃ v, e = .returned v ∧ IsFault v at_ (.iface tt p) w' ∧ Below w.heap.size w w' := by
  go_enter Tryz.func56, Tryz.ntmps56
  go_wp2_with fail
  go_ret
  exact ⟨_, rfl, ⟨_, rfl, heap_alloc_new w _⟩, (Below.refl _ w).alloc (Nat.le_refl _) _⟩


/-! ### the errors' variables -/
structure ErrV where
  (due long deep twice text number exponent : Addr)
def ev (a : Addr) : Value := .iface 228 (.pointer (some a))
/-- What each of the package's error variables holds. -/
structure Errs (E : ErrV) (w : World) : Prop where
  due : w.var? Tryz.prog "voyage/api.ErrDue" = some #[ev E.due]
  long : w.var? Tryz.prog "voyage/api.ErrLong" = some #[ev E.long]
  deep : w.var? Tryz.prog "voyage/api.ErrDeep" = some #[ev E.deep]
  twice : w.var? Tryz.prog "voyage/api.ErrTwice" = some #[ev E.twice]
  text : w.var? Tryz.prog "voyage/api.ErrText" = some #[ev E.text]
  number : w.var? Tryz.prog "voyage/api.ErrNumber" = some #[ev E.number]
  exponent : w.var? Tryz.prog "voyage/api.ErrExponent" = some #[ev E.exponent]
theorem var_block {w : World} {n : String} {g : Nat} {v : Value} (hg : Tryz.prog.globalNamed n = some g) (h : w.var? Tryz.prog n = some #[v]) : g < w.heap.size ∧ w.cell? ⟨g, 0, none⟩ = some v := by
  have hc := World.var?_cell hg h 0
  refine ⟨?_, by simpa using hc⟩
  unfold World.var? at h
  rw [hg] at h
  simp only [Option.bind_some] at h
  rcases hh : w.heap[g]? with _ | o
  · rw [hh] at h; cases h
  · exact (Array.getElem?_eq_some_iff.1 hh).1
theorem var_keep {w w' : World} {n : String} {g : Nat} {v : Value} (hg : Tryz.prog.globalNamed n = some g) (h : w.var? Tryz.prog n = some #[v]) (hb : w'.heap[g]? = w.heap[g]?) : w'.var? Tryz.prog n = some #[v] := by
  unfold World.var? at h ⊢
  rw [hg] at h ⊢
  simp only [Option.bind_some] at h ⊢
  rw [hb]
  exact h
theorem Errs.below {E : ErrV} {w w' : World} (h : Errs E w) (hb : Below w.heap.size w w') : Errs E w' :=
  ⟨var_keep (g := 1) (by kernel_rfl) h.due (hb.block _ (var_block (by kernel_rfl) h.due).1),
   var_keep (g := 2) (by kernel_rfl) h.long (hb.block _ (var_block (by kernel_rfl) h.long).1),
   var_keep (g := 7) (by kernel_rfl) h.deep (hb.block _ (var_block (by kernel_rfl) h.deep).1),
   var_keep (g := 8) (by kernel_rfl) h.twice (hb.block _ (var_block (by kernel_rfl) h.twice).1),
   var_keep (g := 9) (by kernel_rfl) h.text (hb.block _ (var_block (by kernel_rfl) h.text).1),
   var_keep (g := 11) (by kernel_rfl) h.number (hb.block _ (var_block (by kernel_rfl) h.number).1),
   var_keep (g := 12) (by kernel_rfl) h.exponent (hb.block _ (var_block (by kernel_rfl) h.exponent).1)⟩
theorem Errs.due_cell {E : ErrV} {w : World} (h : Errs E w) : w.cell? ⟨1, 0, none⟩ = some (.iface 228 (.pointer (some E.due))) := (var_block (by kernel_rfl) h.due).2
theorem Errs.long_cell {E : ErrV} {w : World} (h : Errs E w) : w.cell? ⟨2, 0, none⟩ = some (.iface 228 (.pointer (some E.long))) := (var_block (by kernel_rfl) h.long).2
theorem Errs.deep_cell {E : ErrV} {w : World} (h : Errs E w) : w.cell? ⟨7, 0, none⟩ = some (.iface 228 (.pointer (some E.deep))) := (var_block (by kernel_rfl) h.deep).2
theorem Errs.twice_cell {E : ErrV} {w : World} (h : Errs E w) : w.cell? ⟨8, 0, none⟩ = some (.iface 228 (.pointer (some E.twice))) := (var_block (by kernel_rfl) h.twice).2
theorem Errs.text_cell {E : ErrV} {w : World} (h : Errs E w) : w.cell? ⟨9, 0, none⟩ = some (.iface 228 (.pointer (some E.text))) := (var_block (by kernel_rfl) h.text).2
theorem Errs.number_cell {E : ErrV} {w : World} (h : Errs E w) : w.cell? ⟨11, 0, none⟩ = some (.iface 228 (.pointer (some E.number))) := (var_block (by kernel_rfl) h.number).2
theorem Errs.exponent_cell {E : ErrV} {w : World} (h : Errs E w) : w.cell? ⟨12, 0, none⟩ = some (.iface 228 (.pointer (some E.exponent))) := (var_block (by kernel_rfl) h.exponent).2
/-- The reader under way. -/
structure RS (E : ErrV) (w0 : World) (s : ByteArray) (i o r : Nat) (W : World) : Prop where
  rd : Rd s i o r W
  le : w0.heap.size ≤ r
  low : Below w0.heap.size w0 W
  errs : Errs E w0
  facts : Facts w0
  size : s.size ≤ 1048576
  at_le : i ≤ s.size
theorem Read.below {r B : Nat} {W W' : World} (h : Read r W W') (hB : B ≤ r) (hs : B ≤ W.heap.size) : Below B W W' := ⟨h.os, h.tape, h.output, h.size, fun k hk => h.block k (by omega) (by intro e; injection e with e; omega)⟩
theorem RS.read {E : ErrV} {w0 : World} {s : ByteArray} {i o r i' o' : Nat} {W W' : World} (h : RS E w0 s i o r W) (hr : Rd s i' o' r W') (hw : Read r W W') (hi : i' ≤ s.size) : RS E w0 s i' o' r W' :=
  ⟨hr, h.le, h.low.trans (hw.below h.le h.low.size), h.errs, h.facts, h.size, hi⟩
theorem RS.below {E : ErrV} {w0 : World} {s : ByteArray} {i o r : Nat} {W W' : World} (h : RS E w0 s i o r W) (hb : Below W.heap.size W W') : RS E w0 s i o r W' := h.read (h.rd.below hb) (Read.of_below hb) h.at_le
theorem RS.er {E : ErrV} {w0 : World} {s : ByteArray} {i o r : Nat} {W : World} (h : RS E w0 s i o r W) : Errs E W := h.errs.below h.low
theorem RS.fct {E : ErrV} {w0 : World} {s : ByteArray} {i o r : Nat} {W : World} (h : RS E w0 s i o r W) : Facts W := h.facts.below h.low
theorem gap_r {E : ErrV} {w0 : World} {s : ByteArray} {i o r : Nat} {w : World} (h : RS E w0 s i o r w) :
    Calls Tryz.prog 57 #[.pointer (some ⟨r, 0, none⟩)] w fun e w' => e = .returned (.tuple #[]) ∧ RS E w0 s (gapTo s i) o r w' ∧ Read r w w' := by
  refine (gap_any s i o r w h.rd (by have := h.size; omega) h.at_le).mono ?_
  rintro e w' ⟨rfl, h1, h2⟩
  exact ⟨rfl, h.read h1 h2 (gapTo_size s i h.at_le), h2⟩
/-- next, its world by its state alone. -/
theorem next_s {E : ErrV} {w0 : World} {s : ByteArray} {i o r : Nat} {w : World} (h : RS E w0 s i o r w) :
    Calls Tryz.prog 81 #[.pointer (some ⟨r, 0, none⟩)] w fun e w' => e = .returned (.int .u8 (byteAt s i)) ∧ RS E w0 s i o r w' ∧ Below w.heap.size w w' := by
  refine (next_any s i o r w h.rd (by have := h.size; omega) (by have := h.size; have := h.at_le; omega)).mono ?_
  rintro e w' ⟨rfl, n, rfl⟩
  exact ⟨rfl, h.below (pw_below_drewN (Below.refl _ _) n), pw_below_drewN (Below.refl _ _) n⟩
/-! ### due -/
set_option maxRecDepth 100000 in
set_option maxHeartbeats 4000000 in
theorem due_no {E : ErrV} {w0 : World} {s : ByteArray} {i o r : Nat} {w : World} (h : RS E w0 s i o r w) (c : Nat) (hc : c < 256) (hne : byteAt s (gapTo s i) ≠ c) :
    Calls Tryz.prog 109 #[.pointer (some ⟨r, 0, none⟩), .int .u8 c] w fun e w' => ∃ v, e = .returned v ∧ IsFault v (gapTo s i) (ev E.due) w' ∧ RS E w0 s (gapTo s i) o r w' ∧ Read r w w' := by
  have b1 : ((byteAt s (gapTo s i) : Int) == (c : Int)) = false := by simp; omega
  have b2 : ((byteAt s (gapTo s i) : Int) != (c : Int)) = true := by simp; omega
  have hbl := byteAt_lt s (gapTo s i)
  have hgs := gapTo_size s i h.at_le
  have hsz := h.size
  have cG := gap_r h
  generalize gapTo s i = j at *
  go_enter Tryz.func109, Tryz.ntmps109
  go_wp2_with (first
    | (go_at_call 81; refine (next_s hR1).mono ?_; rintro e w2 ⟨rfl, hR2, hb2⟩; have hc2 := cellAll hR2.rd; have hd2 := hR2.er.due_cell)
    | (go_at_call 57; refine cG.mono ?_; rintro e w1 ⟨rfl, hR1, hW1⟩))
  go_region_with (go_at_call 56; refine (fail_any _ _ _ _).mono ?_; rintro e w3 ⟨v, rfl, ⟨k, rfl, hk⟩, hb3⟩; replace hk := Aside0.mk hk)
  all_goals (go_wp2_with fail)
  all_goals go_ret
  all_goals (have hb4 : Below w2.heap.size w2 w3 := ⟨hb3.os, hb3.tape, hb3.output, hb3.size, hb3.block⟩)
  all_goals exact ⟨.iface 94 (.pointer (some ⟨k, 0, none⟩)), by simp [Act.put, go_sem], ⟨k, rfl, hk.out⟩, hR2.below hb4, (hW1.trans (Read.of_below hb2)).trans (Read.of_below hb4)⟩

set_option maxRecDepth 100000 in
set_option maxHeartbeats 4000000 in
theorem due_ok {E : ErrV} {w0 : World} {s : ByteArray} {i o r : Nat} {w : World} (h : RS E w0 s i o r w) (c : Nat) (hc0 : 0 < c) (heq : byteAt s (gapTo s i) = c) :
    Calls Tryz.prog 109 #[.pointer (some ⟨r, 0, none⟩), .int .u8 c] w fun e w' => e = .returned .nilIface ∧ RS E w0 s (gapTo s (gapTo s i + 1)) o r w' ∧ Read r w w' := by
  have b1 : ((byteAt s (gapTo s i) : Int) == (c : Int)) = true := by simp; omega
  have b2 : ((byteAt s (gapTo s i) : Int) != (c : Int)) = false := by simp; omega
  have hgl : gapTo s i < s.size := by
    apply Decidable.byContradiction
    intro hn
    unfold byteAt at heq
    rw [dif_neg hn] at heq
    omega
  have hsz := h.size
  have cG := gap_r h
  have cG2 := fun (W : World) (hW : RS E w0 s (gapTo s i + 1) o r W) => gap_r hW
  generalize gapTo s i = j at *
  generalize gapTo s (j + 1) = j2 at *
  go_enter Tryz.func109, Tryz.ntmps109
  go_wp2_with (first
    | (go_at_call 57; refine (cG2 _ hR3.out).mono ?_; rintro e w4 ⟨rfl, hR4, hW4⟩)
    | (go_at_call 81; refine (next_s hR1).mono ?_; rintro e w2 ⟨rfl, hR2, hb2⟩; have hc2 := cellAll hR2.rd; have hf2 := frozenAll hR2.rd; have hR3 := Aside0.mk (hR2.read (hR2.rd.at_ (j + 1)) ((Read.refl r w2).set_ 1 _) (by omega)); have hW3 := Aside0.mk ((hW1.trans (Read.of_below hb2)).set_ 1 (.int .i64 ((j + 1 : Nat) : Int))); rw [show (((j + 1 : Nat) : Int)) = (j : Int) + 1 by omega] at hR3 hW3)
    | (go_at_call 57; refine cG.mono ?_; rintro e w1 ⟨rfl, hR1, hW1⟩))
  go_ret
  exact ⟨rfl, hR4, hW3.out.trans hW4⟩
end Go.Proofs.YtkdeleafgailhaaGreatDoor
end
