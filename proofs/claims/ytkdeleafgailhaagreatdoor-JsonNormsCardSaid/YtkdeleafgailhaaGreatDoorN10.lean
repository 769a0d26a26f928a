/- json.Print. Contracts of json.Same, At, Get, Depth. Contracts of json.At, json.Get. Contracts of json.Depth and its closure. -/
import Derived.Test.YtkdeleafgailhaaGreatDoorN9
import Derived.Deep.RegionWith
import Derived.Deep.RegionHeld3
section
set_option linter.unusedVariables false
set_option linter.unusedSimpArgs false
namespace Go.Proofs.YtkdeleafgailhaaGreatDoor
open Go Go.RowKit Go.Proofs.YtkdeleafgailhaaGreatDoorW.PrintWords

/-! ### the one form's weight -/
theorem cleanFrom_len (s : ByteArray) : ∀ (fuel pos : Nat), (cleanFrom s fuel pos).length ≤ 4 * (s.size - pos)
  | 0, _ => by simp [cleanFrom]
  | fuel + 1, pos => by
    rw [cleanFrom]
    split
    · rename_i hp
      have h1 := (Lib.encodeRuneZ_length (Utf8.decode s pos).1).2
      have h0 := Lib.runeCells_length (Utf8.decode s pos).1
      have h2 := width_pos s pos hp
      have h3 := cleanFrom_len s fuel (pos + (Utf8.decode s pos).2)
      have h4 : (Lib.encodeRune (Utf8.decode s pos).1).length ≤ 4 := by
        rw [← h0]; simpa [Lib.runeCells] using h1
      rw [List.length_append]
      omega
    · simp
theorem clean_size (s : ByteArray) : (clean s).size ≤ 4 * s.size := by
  unfold clean
  split
  · omega
  · rw [size_mk]
    have := cleanFrom_len s s.size 0
    omega
theorem wtF_insF (out : List JF) (name : ByteArray) (v : JV) : JV.wtF (insF out name v) ≤ JV.wtF out + 1 + name.size + v.wt := by
  unfold insF
  split
  · omega
  · have h := List.takeWhile_append_dropWhile (p := fun f : JF => lessB f.name name) (l := out)
    have h2 := congrArg JV.wtF h
    rw [wtF_app] at h2
    rw [wtF_app, JV.wtF]
    omega
mutual
theorem norm_wt : ∀ (x : JV), x.norm.wt ≤ 4 * x.wt
  | .mk k t ng ds ex tx l f => by
    rw [JV.norm, JV.wt]
    split
    · rw [JV.wt, JV.wtL, JV.wtF]; show 1 + 0 + 0 + 0 + 0 ≤ _; omega
    · split
      · have := (decForm_bounds ng ds ex).1
        rw [JV.wt, JV.wtL, JV.wtF]; show 1 + (decForm ng ds ex).1.digits.size + 0 + 0 + 0 ≤ _; omega
      · split
        · have := clean_size tx
          rw [JV.wt, JV.wtL, JV.wtF]; show 1 + 0 + (clean tx).size + 0 + 0 ≤ _; omega
        · split
          · have := normL_wt l
            rw [JV.wt, JV.wtF]; show 1 + 0 + 0 + JV.wtL (JV.normL l) + 0 ≤ _; omega
          · split
            · have := normF_wt f []
              rw [JV.wt, JV.wtL]; rw [show JV.wtF [] = 0 from by rw [JV.wtF]] at this; show 1 + 0 + 0 + 0 + JV.wtF (JV.normF f []) ≤ _; omega
            · unfold JV.nul; rw [JV.wt, JV.wtL, JV.wtF]; show 1 + 0 + 0 + 0 + 0 ≤ _; omega
theorem normL_wt : ∀ (l : List JV), JV.wtL (JV.normL l) ≤ 4 * JV.wtL l
  | [] => by rw [JV.normL]; omega
  | x :: l => by
    rw [JV.normL, JV.wtL, JV.wtL]
    have := norm_wt x
    have := normL_wt l
    omega
theorem normF_wt : ∀ (l : List JF) (out : List JF), JV.wtF (JV.normF l out) ≤ JV.wtF out + 4 * JV.wtF l
  | [], out => by rw [JV.normF]; omega
  | .mk nm v :: l, out => by
    rw [JV.normF, JV.wtF]
    have := norm_wt v
    have := normF_wt l (insF out (clean nm) v.norm)
    have := wtF_insF out (clean nm) v.norm
    have := clean_size nm
    omega
end
theorem intsF_iff : ∀ (l : List JF), JV.intsF l ↔ ∀ f ∈ l, f.value.ints
  | [] => by rw [JV.intsF]; simp
  | .mk nm v :: l => by rw [JV.intsF, intsF_iff l]; simp [JF.value]
theorem intsF_insF {out : List JF} {name : ByteArray} {v : JV} (h : JV.intsF out) (hv : v.ints) : JV.intsF (insF out name v) := by
  unfold insF
  split
  · exact h
  · rw [intsF_iff] at h ⊢
    intro f hf
    rcases List.mem_append.1 hf with hf | hf
    · exact h f (List.takeWhile_subset _ hf)
    · rcases List.mem_cons.1 hf with rfl | hf
      · exact hv
      · exact h f (List.dropWhile_subset _ hf)
mutual
theorem norm_ints : ∀ (x : JV), x.norm.ints
  | .mk k t ng ds ex tx l f => by
    have z : (-9223372036854775808 : Int) ≤ 0 ∧ (0 : Int) ≤ 9223372036854775807 := by omega
    rw [JV.norm]
    split
    · rw [JV.ints, JV.intsL, JV.intsF]; exact ⟨by omega, z, trivial, trivial⟩
    · split
      · have := (decForm_bounds ng ds ex).2
        rw [JV.ints, JV.intsL, JV.intsF]
        exact ⟨by omega, ⟨by show -9223372036854775808 ≤ (decForm ng ds ex).1.exp; omega, by show (decForm ng ds ex).1.exp ≤ _; omega⟩, trivial, trivial⟩
      · split
        · rw [JV.ints, JV.intsL, JV.intsF]; exact ⟨by omega, z, trivial, trivial⟩
        · split
          · rw [JV.ints, JV.intsF]; exact ⟨by omega, z, normL_ints l, trivial⟩
          · split
            · rw [JV.ints, JV.intsL]; exact ⟨by omega, z, trivial, normF_ints f [] (by rw [JV.intsF]; trivial)⟩
            · unfold JV.nul; rw [JV.ints, JV.intsL, JV.intsF]; exact ⟨z, z, trivial, trivial⟩
theorem normL_ints : ∀ (l : List JV), JV.intsL (JV.normL l)
  | [] => by rw [JV.normL, JV.intsL]; trivial
  | x :: l => by rw [JV.normL, JV.intsL]; exact ⟨norm_ints x, normL_ints l⟩
theorem normF_ints : ∀ (l : List JF) (out : List JF), JV.intsF out → JV.intsF (JV.normF l out)
  | [], out, h => by rw [JV.normF]; exact h
  | .mk nm v :: l, out, h => by
    rw [JV.normF]
    exact normF_ints l _ (intsF_insF h (norm_ints v))
end

set_option maxRecDepth 100000 in
set_option maxHeartbeats 4000000 in
/-- **json.Print.** -/
theorem print_any (x : JV) (w : World) (cs : List Value) (hK : kV.K w x cs) (hF : Facts w) (hwt : x.wt ≤ 1073741824) (hin : x.ints) :
    Calls Tryz.prog 29 #[.agg cs.toArray] w fun e w' => e = .returned (.string ⟨x.print.toArray⟩) ∧ Below w.heap.size w w' := by
  obtain ⟨A, c, B, d, rfl, hlc, hCl, hfc, hCf⟩ := kV_open hK
  unfold JV.cells at *
  have hb1 := (Below.refl _ w).alloc (Nat.le_refl _) (.cells #[.int .i64 x.kind, .bool x.truth, .bool x.neg, .string x.digits, .int .i64 x.exp, .string x.text, .slice A x.list.length c, .slice B x.fields.length d] 27)
  have hI := IsB.fresh (w.alloc (.cells #[.int .i64 x.kind, .bool x.truth, .bool x.neg, .string x.digits, .int .i64 x.exp, .string x.text, .slice A x.list.length c, .slice B x.fields.length d] 27))
  have hb2 := (Below.refl _ (w.alloc (.cells #[.int .i64 x.kind, .bool x.truth, .bool x.neg, .string x.digits, .int .i64 x.exp, .string x.text, .slice A x.list.length c, .slice B x.fields.length d] 27))).alloc (Nat.le_refl _) (.cells #[.pointer none, .slice none 0 0] 101)
  have hI2 := hI.below ((Below.refl _ ((w.alloc (.cells #[.int .i64 x.kind, .bool x.truth, .bool x.neg, .string x.digits, .int .i64 x.exp, .string x.text, .slice A x.list.length c, .slice B x.fields.length d] 27)).alloc (.cells #[.pointer none, .slice none 0 0] 101))).alloc (Nat.le_refl _) (.cells #[.func (.func 60) #[] #[.pointer (some ⟨w.heap.size + 1, 0, none⟩), .pointer (some ⟨w.heap.size + 1 + 1, 0, none⟩)]] 102))
  have hs1 : (w.alloc (.cells #[.int .i64 x.kind, .bool x.truth, .bool x.neg, .string x.digits, .int .i64 x.exp, .string x.text, .slice A x.list.length c, .slice B x.fields.length d] 27)).heap.size = w.heap.size + 1 := by simp
  rw [hs1] at hI2
  have hB3 := ((hb1.alloc (by simp) (.cells #[.pointer none, .slice none 0 0] 101)).alloc (by simp; omega) (.cells #[.func (.func 60) #[] #[.pointer (some ⟨w.heap.size + 1, 0, none⟩), .pointer (some ⟨w.heap.size + 1 + 1, 0, none⟩)]] 102))
  have hnew := heap_alloc_new ((w.alloc (.cells #[.int .i64 x.kind, .bool x.truth, .bool x.neg, .string x.digits, .int .i64 x.exp, .string x.text, .slice A x.list.length c, .slice B x.fields.length d] 27)).alloc (.cells #[.pointer none, .slice none 0 0] 101)) (.cells #[.func (.func 60) #[] #[.pointer (some ⟨w.heap.size + 1, 0, none⟩), .pointer (some ⟨w.heap.size + 1 + 1, 0, none⟩)]] 102)
  rw [show ((w.alloc (.cells #[.int .i64 x.kind, .bool x.truth, .bool x.neg, .string x.digits, .int .i64 x.exp, .string x.text, .slice A x.list.length c, .slice B x.fields.length d] 27)).alloc (.cells #[.pointer none, .slice none 0 0] 101)).heap.size = w.heap.size + 1 + 1 by simp] at hnew
  have hP : PS (w.heap.size + 1) (w.heap.size + 1) (w.heap.size + 1 + 1) w [] ((((w.alloc (.cells #[.int .i64 x.kind, .bool x.truth, .bool x.neg, .string x.digits, .int .i64 x.exp, .string x.text, .slice A x.list.length c, .slice B x.fields.length d] 27)).alloc (.cells #[.pointer none, .slice none 0 0] 101)).alloc (.cells #[.func (.func 60) #[] #[.pointer (some ⟨w.heap.size + 1, 0, none⟩), .pointer (some ⟨w.heap.size + 1 + 1, 0, none⟩)]] 102))).drew := PS.below (W := (((w.alloc (.cells #[.int .i64 x.kind, .bool x.truth, .bool x.neg, .string x.digits, .int .i64 x.exp, .string x.text, .slice A x.list.length c, .slice B x.fields.length d] 27)).alloc (.cells #[.pointer none, .slice none 0 0] 101)).alloc (.cells #[.func (.func 60) #[] #[.pointer (some ⟨w.heap.size + 1, 0, none⟩), .pointer (some ⟨w.heap.size + 1 + 1, 0, none⟩)]] 102))) ⟨hI2, hnew, by omega, hB3, hF⟩ (below_drew (Below.refl _ _))
  have cN := norm_any x ((((w.alloc (.cells #[.int .i64 x.kind, .bool x.truth, .bool x.neg, .string x.digits, .int .i64 x.exp, .string x.text, .slice A x.list.length c, .slice B x.fields.length d] 27)).alloc (.cells #[.pointer none, .slice none 0 0] 101)).alloc (.cells #[.func (.func 60) #[] #[.pointer (some ⟨w.heap.size + 1, 0, none⟩), .pointer (some ⟨w.heap.size + 1 + 1, 0, none⟩)]] 102))).drew _ (kV.K_below (below_drew hB3) hK) hP.fct (by omega) hin
  have hnw := norm_wt x
  have hni := norm_ints x
  have hpl := put_len x.norm
  unfold JV.print
  replace hP := Aside0.mk hP
  replace hB3 := Aside0.mk hB3
  clear hb1 hI hb2 hI2 hs1 hnew hK hCl hCf hF
  go_enter Tryz.func29, Tryz.ntmps29
  go_wp2_with fail
  go_region_with (first
    | (go_at_call 9; refine cN.mono ?_; rintro e w1 ⟨cs', rfl, hM, hb1⟩; obtain ⟨vl, vf, rfl, hRl, hRf⟩ := kV_openM hM; obtain ⟨Al, cl, rfl⟩ := Kd.R_slice hRl; obtain ⟨Af, cf, rfl⟩ := Kd.R_slice hRf; unfold JV.cells at hM; unfold JV.cells; clear hRl hRf; have hM1 := Aside0.mk (kV.M_lower (Nat.zero_le _) hM); clear hM; have hP1 := hP.out.below hb1; have hcg := cellAll hP1.put; unfold clo at hcg; replace hP1 := Aside0.mk hP1)
    | (go_at_call 60; refine (put_any x.norm _ _ _ w _ w1 _ hP1.out hM1.out (by omega) hni (by simp; omega)).mono ?_; rintro e w2 ⟨rfl, hP2, hW2⟩))
  all_goals (go_wp2_with (go_at_call 65; refine (string_k _ _ _ _ hP2.isB hP2.size).mono ?_; rintro e w3 ⟨rfl, hI3, hb3, ho3⟩))
  all_goals go_ret
  all_goals exact ⟨rfl, hP2.low.trans (hb3.mono (by omega))⟩
end Go.Proofs.YtkdeleafgailhaaGreatDoor
end
section
set_option linter.unusedVariables false
set_option linter.unusedSimpArgs false
namespace Go.Proofs.YtkdeleafgailhaaGreatDoor
open Go Go.RowKit Go.Proofs.YtkdeleafgailhaaGreatDoorW.PrintWords

/-! ### a value's cells, with its slices' names -/
structure VC (w : World) (x : JV) (A B : Option Addr) (c d : Nat) : Prop where
  k : kV.K w x (x.cells (.slice A x.list.length c) (.slice B x.fields.length d))
  lc : x.list.length ≤ c
  l : kV.C w A x.list.length x.list
  fc : x.fields.length ≤ d
  f : kF.C w B x.fields.length x.fields
theorem VC.of {w : World} {x : JV} {cs : List Value} (h : kV.K w x cs) : ∃ A c B d, cs = x.cells (.slice A x.list.length c) (.slice B x.fields.length d) ∧ VC w x A B c d := by
  obtain ⟨A, c, B, d, rfl, h1, h2, h3, h4⟩ := kV_open h
  exact ⟨A, c, B, d, rfl, h, h1, h2, h3, h4⟩

theorem bytes_beq (a b : ByteArray) : (a.toList == b.toList) = decide (a = b) := by
  by_cases h : a = b
  · subst h; simp
  · rw [decide_eq_false h]
    refine beq_eq_false_iff_ne.2 (fun e => h ?_)
    rw [toList_eq, toList_eq] at e
    exact bytes_eq e
set_option maxRecDepth 100000 in
set_option maxHeartbeats 4000000 in
theorem same_core (w : World) (k k' : Int) (t ng t' ng' : Bool) (ds tx ds' tx' : ByteArray) (ex ex' : Int) (A B A' B' : Option Addr) (n c m d n' c' m' d' : Nat) (P1 P2 : ByteArray)
    (cP : ∀ W, Below w.heap.size w W → Calls Tryz.prog 29 #[.agg #[.int .i64 k, .bool t, .bool ng, .string ds, .int .i64 ex, .string tx, .slice A n c, .slice B m d]] W fun e w' => e = .returned (.string P1) ∧ Below W.heap.size W w')
    (cP' : ∀ W, Below w.heap.size w W → Calls Tryz.prog 29 #[.agg #[.int .i64 k', .bool t', .bool ng', .string ds', .int .i64 ex', .string tx', .slice A' n' c', .slice B' m' d']] W fun e w' => e = .returned (.string P2) ∧ Below W.heap.size W w') :
    Calls Tryz.prog 30 #[.agg #[.int .i64 k, .bool t, .bool ng, .string ds, .int .i64 ex, .string tx, .slice A n c, .slice B m d], .agg #[.int .i64 k', .bool t', .bool ng', .string ds', .int .i64 ex', .string tx', .slice A' n' c', .slice B' m' d']] w fun e w' => e = .returned (.bool (decide (P1 = P2))) ∧ Below w.heap.size w w' := by
  have hB0 := below_drew (((Below.refl _ w).alloc (Nat.le_refl _) (.cells #[.int .i64 k, .bool t, .bool ng, .string ds, .int .i64 ex, .string tx, .slice A n c, .slice B m d] 27)).alloc (by simp) (.cells #[.int .i64 k', .bool t', .bool ng', .string ds', .int .i64 ex', .string tx', .slice A' n' c', .slice B' m' d'] 27))
  obtain ⟨e0, e1⟩ := boxes w (.cells #[.int .i64 k, .bool t, .bool ng, .string ds, .int .i64 ex, .string tx, .slice A n c, .slice B m d] 27) (.cells #[.int .i64 k', .bool t', .bool ng', .string ds', .int .i64 ex', .string tx', .slice A' n' c', .slice B' m' d'] 27)
  generalize hW2 : ((w.alloc (.cells #[.int .i64 k, .bool t, .bool ng, .string ds, .int .i64 ex, .string tx, .slice A n c, .slice B m d] 27)).alloc (.cells #[.int .i64 k', .bool t', .bool ng', .string ds', .int .i64 ex', .string tx', .slice A' n' c', .slice B' m' d'] 27)).drew = W2 at hB0 e0 e1
  have hs2 : W2.heap.size = w.heap.size + 2 := by rw [← hW2]; simp [World.drew]
  have hS : ∀ W, Below W2.heap.size W2 W → ((∀ j, (W).cell? ⟨w.heap.size, j, none⟩ = ((#[.int .i64 k, .bool t, .bool ng, .string ds, .int .i64 ex, .string tx, .slice A n c, .slice B m d] : Array Value))[j]?) ∧ (∀ j, (W).cell? ⟨w.heap.size + 1, j, none⟩ = ((#[.int .i64 k', .bool t', .bool ng', .string ds', .int .i64 ex', .string tx', .slice A' n' c', .slice B' m' d'] : Array Value))[j]?) ∧ Below W2.heap.size W2 (W)) := fun W hb => ⟨cellAll ((hb.block w.heap.size (by omega)).trans e0), cellAll ((hb.block (w.heap.size + 1) (by omega)).trans e1), hb⟩
  have dP : ∀ W, ((∀ j, (W).cell? ⟨w.heap.size, j, none⟩ = ((#[.int .i64 k, .bool t, .bool ng, .string ds, .int .i64 ex, .string tx, .slice A n c, .slice B m d] : Array Value))[j]?) ∧ (∀ j, (W).cell? ⟨w.heap.size + 1, j, none⟩ = ((#[.int .i64 k', .bool t', .bool ng', .string ds', .int .i64 ex', .string tx', .slice A' n' c', .slice B' m' d'] : Array Value))[j]?) ∧ Below W2.heap.size W2 (W)) → Calls Tryz.prog 29 #[.agg #[.int .i64 k, .bool t, .bool ng, .string ds, .int .i64 ex, .string tx, .slice A n c, .slice B m d]] W fun e W => e = .returned (.string P1) ∧ ((∀ j, (W).cell? ⟨w.heap.size, j, none⟩ = ((#[.int .i64 k, .bool t, .bool ng, .string ds, .int .i64 ex, .string tx, .slice A n c, .slice B m d] : Array Value))[j]?) ∧ (∀ j, (W).cell? ⟨w.heap.size + 1, j, none⟩ = ((#[.int .i64 k', .bool t', .bool ng', .string ds', .int .i64 ex', .string tx', .slice A' n' c', .slice B' m' d'] : Array Value))[j]?) ∧ Below W2.heap.size W2 (W)) := fun W h => (cP W (hB0.trans (h.2.2.mono (by omega)))).mono (fun e w' h' => ⟨h'.1, hS _ (h.2.2.trans (h'.2.mono h.2.2.size))⟩)
  have dP' : ∀ W, ((∀ j, (W).cell? ⟨w.heap.size, j, none⟩ = ((#[.int .i64 k, .bool t, .bool ng, .string ds, .int .i64 ex, .string tx, .slice A n c, .slice B m d] : Array Value))[j]?) ∧ (∀ j, (W).cell? ⟨w.heap.size + 1, j, none⟩ = ((#[.int .i64 k', .bool t', .bool ng', .string ds', .int .i64 ex', .string tx', .slice A' n' c', .slice B' m' d'] : Array Value))[j]?) ∧ Below W2.heap.size W2 (W)) → Calls Tryz.prog 29 #[.agg #[.int .i64 k', .bool t', .bool ng', .string ds', .int .i64 ex', .string tx', .slice A' n' c', .slice B' m' d']] W fun e W => e = .returned (.string P2) ∧ ((∀ j, (W).cell? ⟨w.heap.size, j, none⟩ = ((#[.int .i64 k, .bool t, .bool ng, .string ds, .int .i64 ex, .string tx, .slice A n c, .slice B m d] : Array Value))[j]?) ∧ (∀ j, (W).cell? ⟨w.heap.size + 1, j, none⟩ = ((#[.int .i64 k', .bool t', .bool ng', .string ds', .int .i64 ex', .string tx', .slice A' n' c', .slice B' m' d'] : Array Value))[j]?) ∧ Below W2.heap.size W2 (W)) := fun W h => (cP' W (hB0.trans (h.2.2.mono (by omega)))).mono (fun e w' h' => ⟨h'.1, hS _ (h.2.2.trans (h'.2.mono h.2.2.size))⟩)
  have h0 := hS _ (Below.refl _ _)
  have h0' : ((∀ j, (((w.alloc (.cells #[.int .i64 k, .bool t, .bool ng, .string ds, .int .i64 ex, .string tx, .slice A n c, .slice B m d] 27)).alloc (.cells #[.int .i64 k', .bool t', .bool ng', .string ds', .int .i64 ex', .string tx', .slice A' n' c', .slice B' m' d'] 27)).drew).cell? ⟨w.heap.size, j, none⟩ = ((#[.int .i64 k, .bool t, .bool ng, .string ds, .int .i64 ex, .string tx, .slice A n c, .slice B m d] : Array Value))[j]?) ∧ (∀ j, (((w.alloc (.cells #[.int .i64 k, .bool t, .bool ng, .string ds, .int .i64 ex, .string tx, .slice A n c, .slice B m d] 27)).alloc (.cells #[.int .i64 k', .bool t', .bool ng', .string ds', .int .i64 ex', .string tx', .slice A' n' c', .slice B' m' d'] 27)).drew).cell? ⟨w.heap.size + 1, j, none⟩ = ((#[.int .i64 k', .bool t', .bool ng', .string ds', .int .i64 ex', .string tx', .slice A' n' c', .slice B' m' d'] : Array Value))[j]?) ∧ Below W2.heap.size W2 (((w.alloc (.cells #[.int .i64 k, .bool t, .bool ng, .string ds, .int .i64 ex, .string tx, .slice A n c, .slice B m d] 27)).alloc (.cells #[.int .i64 k', .bool t', .bool ng', .string ds', .int .i64 ex', .string tx', .slice A' n' c', .slice B' m' d'] 27)).drew)) := by rw [hW2]; exact h0
  replace hW2 := Aside0.mk hW2
  replace hB0 := Aside0.mk hB0
  clear hS cP cP' e0 e1 h0
  go_enter Tryz.func30, Tryz.ntmps30
  go_wp2_with fail
  go_region_with (first
    | (go_at_call 29; refine (dP' _ ⟨hc2, hc3, hb2⟩).mono ?_; rintro e w2 ⟨rfl, hc4, hc5, hb3⟩)
    | (go_at_call 29; refine (dP _ h0').mono ?_; rintro e w1 ⟨rfl, hc2, hc3, hb2⟩))
  all_goals (go_wp2_with fail)
  all_goals go_ret
  all_goals refine ⟨?_, hB0.out.trans (hb3.mono (by omega))⟩
  all_goals simp [Act.put, go_sem]
  all_goals exact bytes_beq P1 P2
/-- **json.Same.** -/
theorem same_any (x y : JV) (w : World) (cs cs' : List Value) (hK : kV.K w x cs) (hK' : kV.K w y cs') (hF : Facts w) (hwt : x.wt ≤ 1073741824) (hin : x.ints) (hwt' : y.wt ≤ 1073741824) (hin' : y.ints) :
    Calls Tryz.prog 30 #[.agg cs.toArray, .agg cs'.toArray] w fun e w' => e = .returned (.bool (decide (x.print = y.print))) ∧ Below w.heap.size w w' := by
  have hX : decide (x.print = y.print) = decide ((⟨x.print.toArray⟩ : ByteArray) = ⟨y.print.toArray⟩) := by
    congr 1
    exact propext ⟨fun e => by rw [e], fun e => by injection e with e; exact List.toArray_inj e⟩
  obtain ⟨A, c, B, d, rfl, _⟩ := VC.of hK
  obtain ⟨A', c', B', d', rfl, _⟩ := VC.of hK'
  rw [hX]
  exact same_core w _ _ _ _ _ _ _ _ _ _ _ _ A B A' B' _ c _ d _ c' _ d' _ _ (fun W hb => print_any x W _ (kV.K_below hb hK) (hF.below hb) hwt hin) (fun W hb => print_any y W _ (kV.K_below hb hK') (hF.below hb) hwt' hin')
end Go.Proofs.YtkdeleafgailhaaGreatDoor
end
section
set_option linter.unusedVariables false
set_option linter.unusedSimpArgs false
namespace Go.Proofs.YtkdeleafgailhaaGreatDoor
open Go Go.RowKit Go.Proofs.YtkdeleafgailhaaGreatDoorW.PrintWords

def atL (k : Int) (l : List JV) (i : Int) : JV × Bool := if k = 4 ∧ 0 ≤ i ∧ i < (l.length : Int) then ((l.getD i.toNat JV.nul).norm, true) else (JV.nul, false)
def JV.at_ (x : JV) (i : Int) : JV × Bool := atL x.kind x.list i
/-- What a call gives that makes a value and a bool. -/
def Gives (w : World) (r : JV × Bool) (e : Ending) (w' : World) : Prop := ∃ cs, e = .returned (.tuple #[.agg cs.toArray, .bool r.2]) ∧ kV.M w' w.heap.size (fun _ => True) r.1 cs ∧ Below w.heap.size w w'

set_option maxRecDepth 100000 in
set_option maxHeartbeats 4000000 in
theorem at_no (w : World) (k : Int) (t ng : Bool) (ds tx : ByteArray) (ex : Int) (A B : Option Addr) (n c m d : Nat) (i : Int) (h : ¬ (k = 4 ∧ 0 ≤ i ∧ i < (n : Int))) :
    Calls Tryz.prog 11 #[.agg #[.int .i64 k, .bool t, .bool ng, .string ds, .int .i64 ex, .string tx, .slice A n c, .slice B m d], .int .i64 i] w (Gives w (JV.nul, false)) := by
  have hB0 := ((Below.refl _ w).alloc (Nat.le_refl _) (.cells #[.int .i64 k, .bool t, .bool ng, .string ds, .int .i64 ex, .string tx, .slice A n c, .slice B m d] 27)).alloc (by simp) (.cells #[.int .i64 0, .bool false, .bool false, .string ⟨#[]⟩, .int .i64 0, .string ⟨#[]⟩, .slice none 0 0, .slice none 0 0] 27)
  by_cases h4 : k = 4
  · subst h4
    by_cases h0 : i < 0
    · go_enter Tryz.func11, Tryz.ntmps11
      go_wp2_with fail
      refine bodyPost_ret (v := .tuple #[.agg #[.int .i64 0, .bool false, .bool false, .string ⟨#[]⟩, .int .i64 0, .string ⟨#[]⟩, .slice none 0 0, .slice none 0 0], .bool false]) (by simp [results, Tryz.results11, go_sem]) rfl ⟨[.int .i64 0, .bool false, .bool false, .string ⟨#[]⟩, .int .i64 0, .string ⟨#[]⟩, .slice none 0 0, .slice none 0 0], rfl, kV_mkM (x := JV.nul) (R_nilV _ _ _) (R_nilF _ _ _), hB0⟩
    · have hn : (n : Int) ≤ i := by omega
      go_enter Tryz.func11, Tryz.ntmps11
      go_wp2_with fail
      refine bodyPost_ret (v := .tuple #[.agg #[.int .i64 0, .bool false, .bool false, .string ⟨#[]⟩, .int .i64 0, .string ⟨#[]⟩, .slice none 0 0, .slice none 0 0], .bool false]) (by simp [results, Tryz.results11, go_sem]) rfl ⟨[.int .i64 0, .bool false, .bool false, .string ⟨#[]⟩, .int .i64 0, .string ⟨#[]⟩, .slice none 0 0, .slice none 0 0], rfl, kV_mkM (x := JV.nul) (R_nilV _ _ _) (R_nilF _ _ _), hB0⟩
  · have b4 : (k == 4) = false := by simpa using h4
    have n4 : (k != 4) = true := by simpa using h4
    go_enter Tryz.func11, Tryz.ntmps11
    go_wp2_with fail
    refine bodyPost_ret (v := .tuple #[.agg #[.int .i64 0, .bool false, .bool false, .string ⟨#[]⟩, .int .i64 0, .string ⟨#[]⟩, .slice none 0 0, .slice none 0 0], .bool false]) (by simp [results, Tryz.results11, go_sem]) rfl ⟨[.int .i64 0, .bool false, .bool false, .string ⟨#[]⟩, .int .i64 0, .string ⟨#[]⟩, .slice none 0 0, .slice none 0 0], rfl, kV_mkM (x := JV.nul) (R_nilV _ _ _) (R_nilF _ _ _), hB0⟩

set_option maxRecDepth 100000 in
set_option maxHeartbeats 4000000 in
theorem at_yes (w : World) (t ng : Bool) (ds tx : ByteArray) (ex : Int) (A B : Option Addr) (n c m d : Nat) (i : Nat) (xs : List JV) (hn : n ≤ 4294967296) (hnc : n ≤ c) (hC : kV.C w A n xs) (hi : i < n) (hF : Facts w) (hwt : JV.wtL xs ≤ 4294967296) (hin : JV.intsL xs) :
    Calls Tryz.prog 11 #[.agg #[.int .i64 4, .bool t, .bool ng, .string ds, .int .i64 ex, .string tx, .slice A n c, .slice B m d], .int .i64 i] w (Gives w ((xs.getD i JV.nul).norm, true)) := by
  have hB0 := ((Below.refl _ w).alloc (Nat.le_refl _) (.cells #[.int .i64 4, .bool t, .bool ng, .string ds, .int .i64 ex, .string tx, .slice A n c, .slice B m d] 27)).alloc (by simp) (.cells #[.int .i64 0, .bool false, .bool false, .string ⟨#[]⟩, .int .i64 0, .string ⟨#[]⟩, .slice none 0 0, .slice none 0 0] 27)
  obtain ⟨e0, e1⟩ := boxes' w (.cells #[.int .i64 4, .bool t, .bool ng, .string ds, .int .i64 ex, .string tx, .slice A n c, .slice B m d] 27) (.cells #[.int .i64 0, .bool false, .bool false, .string ⟨#[]⟩, .int .i64 0, .string ⟨#[]⟩, .slice none 0 0, .slice none 0 0] 27)
  have hlen := hC.1
  obtain ⟨ad, x, A6, c6, A7, c7, rfl, hx, hcs, l6, g6, l7, g7⟩ := at_V (Kd.C_below hC hB0) i hi
  have hK := kV_mkK l6 g6 l7 g7
  unfold JV.cells at hcs hK
  obtain ⟨q0, q1, q2, q3, q4, q5, q6, q7, _⟩ := hcs
  have hxm : x ∈ xs := List.mem_of_getElem? hx
  have hwx := wt_memL hxm
  have cN := norm_any x _ _ hK (hF.below hB0) (by omega) (ints_memL hxm hin)
  have hxd : xs.getD i JV.nul = x := by rw [List.getD_eq_getElem?_getD, hx]; rfl
  rw [hxd]
  replace hx := Aside0.mk hx
  replace hB0 := Aside0.mk hB0
  replace e1 := Aside0.mk e1
  clear hC hF hxd hK hlen e0
  go_enter Tryz.func11, Tryz.ntmps11
  go_wp2_with (go_at_call 9; refine cN.mono ?_; rintro e w' ⟨cs', rfl, hM, hb⟩; have hb1 := (hb.block (w.heap.size + 1) (by simp)).trans e1.out; have hc1 := cellAll hb1; have hf1 := frozenAll hb1; clear hb1; obtain ⟨vl, vf, rfl, hRl, hRf⟩ := kV_openM hM; obtain ⟨Al, cl, rfl⟩ := Kd.R_slice hRl; obtain ⟨Af, cf, rfl⟩ := Kd.R_slice hRf; unfold JV.cells; clear hM; replace hRl := Aside0.mk hRl; replace hRf := Aside0.mk hRf)
  refine bodyPost_ret (v := .tuple #[.agg #[.int .i64 x.norm.kind, .bool x.norm.truth, .bool x.norm.neg, .string x.norm.digits, .int .i64 x.norm.exp, .string x.norm.text, .slice Al x.norm.list.length cl, .slice Af x.norm.fields.length cf], .bool true]) (by simp [results, Tryz.results11, go_sem, hc1]) rfl ⟨[.int .i64 x.norm.kind, .bool x.norm.truth, .bool x.norm.neg, .string x.norm.digits, .int .i64 x.norm.exp, .string x.norm.text, .slice Al x.norm.list.length cl, .slice Af x.norm.fields.length cf], rfl, ?_, ?_⟩
  · exact kV_mkM (x := x.norm) (R_setsV hRl.out (by simp) (by simp; omega)) (R_sets hRf.out (by simp) (by simp; omega))
  · iterate 8 refine below_set ?_ (by omega)
    exact hB0.out.trans (hb.mono (by simp; omega))
/-- **json.At.** -/
theorem at_any (x : JV) (i : Int) (w : World) (cs : List Value) (hK : kV.K w x cs) (hF : Facts w) (hwt : x.wt ≤ 4294967296) (hin : x.ints) :
    Calls Tryz.prog 11 #[.agg cs.toArray, .int .i64 i] w (Gives w (x.at_ i)) := by
  obtain ⟨A, c, B, d, rfl, hV⟩ := VC.of hK
  obtain ⟨k, t, ng, ds, ex, tx, l, f⟩ := x
  obtain ⟨_, hlc, hCl, hfc, hCf⟩ := hV
  have hll := wtL_len l
  rw [JV.wt] at hwt
  rw [JV.ints] at hin
  unfold JV.at_
  unfold JV.cells
  simp only [JV.kind, JV.truth, JV.neg, JV.digits, JV.exp, JV.text, JV.list, JV.fields] at *
  unfold atL
  by_cases h : k = 4 ∧ 0 ≤ i ∧ i < (l.length : Int)
  · rw [if_pos h]
    obtain ⟨rfl, h0, h1⟩ := h
    obtain ⟨i, rfl⟩ := Int.eq_ofNat_of_zero_le h0
    exact at_yes w t ng ds tx ex A B _ c _ d i l (by omega) hlc hCl (by omega) hF (by omega) hin.2.2.1
  · rw [if_neg h]
    exact at_no w k t ng ds tx ex A B _ c _ d i h

def getF (l : List JF) (nm : ByteArray) : JV × Bool := match l.find? (fun f => decide (clean f.name = nm)) with | some f => (f.value.norm, true) | none => (JV.nul, false)
def getK (k : Int) (l : List JF) (name : ByteArray) : JV × Bool := if k = 5 then getF l (clean name) else (JV.nul, false)
def JV.get_ (x : JV) (name : ByteArray) : JV × Bool := getK x.kind x.fields name

theorem getF_app (nm : ByteArray) : ∀ (a b : List JF), (∀ f ∈ a, clean f.name ≠ nm) → getF (a ++ b) nm = getF b nm
  | [], b, _ => rfl
  | f :: a, b, h => by
    have := getF_app nm a b (fun g hg => h g (List.mem_cons_of_mem _ hg))
    unfold getF at this ⊢
    rw [List.cons_append, List.find?_cons_of_neg (by simpa using h f (List.mem_cons_self ..))]
    exact this
theorem getF_at {fs : List JF} {nm : ByteArray} {j : Nat} {x : JF} (h : ∀ f ∈ fs.take j, clean f.name ≠ nm) (hx : fs[j]? = some x) (he : clean x.name = nm) : getF fs nm = (x.value.norm, true) := by
  have hl := (List.getElem?_eq_some_iff.1 hx)
  have e : fs = fs.take j ++ (x :: fs.drop (j + 1)) := by
    rw [← hl.2, ← List.drop_eq_getElem_cons hl.1, List.take_append_drop]
  rw [e, getF_app nm _ _ h]
  unfold getF
  rw [List.find?_cons_of_pos (by simpa using he)]
theorem getF_none {fs : List JF} {nm : ByteArray} (h : ∀ f ∈ fs, clean f.name ≠ nm) : getF fs nm = (JV.nul, false) := by
  have := getF_app nm fs [] h
  rw [List.append_nil] at this
  rw [this]
  rfl

set_option maxRecDepth 100000 in
set_option maxHeartbeats 4000000 in
theorem get_no (w : World) (k : Int) (t ng : Bool) (ds tx : ByteArray) (ex : Int) (A B : Option Addr) (n c m d : Nat) (name : ByteArray) (h : ¬ k = 5) :
    Calls Tryz.prog 10 #[.agg #[.int .i64 k, .bool t, .bool ng, .string ds, .int .i64 ex, .string tx, .slice A n c, .slice B m d], .string name] w (Gives w (JV.nul, false)) := by
  have hB0 := ((Below.refl _ w).alloc (Nat.le_refl _) (.cells #[.int .i64 k, .bool t, .bool ng, .string ds, .int .i64 ex, .string tx, .slice A n c, .slice B m d] 27)).alloc (by simp) (.cells #[.int .i64 0, .bool false, .bool false, .string ⟨#[]⟩, .int .i64 0, .string ⟨#[]⟩, .slice none 0 0, .slice none 0 0] 27)
  have b5 : (k == 5) = false := by simpa using h
  have n5 : (k != 5) = true := by simpa using h
  go_enter Tryz.func10, Tryz.ntmps10
  go_wp2_with fail
  refine bodyPost_ret (v := .tuple #[.agg #[.int .i64 0, .bool false, .bool false, .string ⟨#[]⟩, .int .i64 0, .string ⟨#[]⟩, .slice none 0 0, .slice none 0 0], .bool false]) (by simp [results, Tryz.results10, go_sem]) rfl ⟨[.int .i64 0, .bool false, .bool false, .string ⟨#[]⟩, .int .i64 0, .string ⟨#[]⟩, .slice none 0 0, .slice none 0 0], rfl, kV_mkM (x := JV.nul) (R_nilV _ _ _) (R_nilF _ _ _), hB0⟩

set_option maxRecDepth 100000 in
set_option maxHeartbeats 4000000 in
theorem get_in (w : World) (t ng : Bool) (ds tx : ByteArray) (ex : Int) (A B : Option Addr) (n c m d : Nat) (name : ByteArray) (fs : List JF) (hm : m ≤ 4294967296) (hmd : m ≤ d) (hC : kF.C w B m fs) (hF : Facts w) (hs : name.size ≤ 35184372088832) (hwt : JV.wtF fs ≤ 4294967296) (hin : JV.intsF fs) :
    Calls Tryz.prog 10 #[.agg #[.int .i64 5, .bool t, .bool ng, .string ds, .int .i64 ex, .string tx, .slice A n c, .slice B m d], .string name] w (Gives w (getF fs (clean name))) := by
  have hB0 := ((Below.refl _ w).alloc (Nat.le_refl _) (.cells #[.int .i64 5, .bool t, .bool ng, .string ds, .int .i64 ex, .string tx, .slice A n c, .slice B m d] 27)).alloc (by simp) (.cells #[.int .i64 0, .bool false, .bool false, .string ⟨#[]⟩, .int .i64 0, .string ⟨#[]⟩, .slice none 0 0, .slice none 0 0] 27)
  obtain ⟨e0, e1⟩ := boxes' w (.cells #[.int .i64 5, .bool t, .bool ng, .string ds, .int .i64 ex, .string tx, .slice A n c, .slice B m d] 27) (.cells #[.int .i64 0, .bool false, .bool false, .string ⟨#[]⟩, .int .i64 0, .string ⟨#[]⟩, .slice none 0 0, .slice none 0 0] 27)
  have hlen := hC.1
  have cC := clean_any name _ hs (hF.below hB0).tabs
  have hs2 : ((w.alloc (.cells #[.int .i64 5, .bool t, .bool ng, .string ds, .int .i64 ex, .string tx, .slice A n c, .slice B m d] 27)).alloc (.cells #[.int .i64 0, .bool false, .bool false, .string ⟨#[]⟩, .int .i64 0, .string ⟨#[]⟩, .slice none 0 0, .slice none 0 0] 27)).heap.size = w.heap.size + 2 := by simp
  generalize clean name = nm at cC ⊢
  replace hlen := Aside0.mk hlen
  replace hB0 := Aside0.mk hB0
  replace e0 := Aside0.mk e0
  replace e1 := Aside0.mk e1
  replace hs2 := Aside0.mk hs2
  go_enter Tryz.func10, Tryz.ntmps10
  go_wp2_with (go_at_call 34; refine cC.mono ?_; rintro e W2 ⟨rfl, hb⟩; rw [hs2.out] at hb; have hb0 := (hb.block w.heap.size (by omega)).trans e0.out; have hc0 := cellAll hb0; have hb1 := (hb.block (w.heap.size + 1) (by omega)).trans e1.out; replace hb1 := Aside0.mk hb1; have hB2 := Aside0.mk (hB0.out.trans (hb.mono (by omega))); have hz2 := hb.size; rw [hs2.out] at hz2; clear hb0 hb)
  go_loopw [17] (fun i wr => ∃ j : Nat, i = .int .i64 j ∧ j ≤ m ∧ Aside0 (∀ f ∈ fs.take j, clean f.name ≠ nm) ∧ Below W2.heap.size W2 wr) (fun i _ => m - (intOf i).toNat)
  case atStart => exact ⟨0, rfl, Nat.zero_le _, ⟨by simp⟩, Below.refl _ _⟩
  case round =>
    obtain ⟨j, rfl, hj, hno, hB⟩ := hrel
    by_cases hlt : j < m
    · obtain ⟨ad, x, A6, c6, A7, c7, rfl, hx, hcs, l6, g6, l7, g7⟩ := at_F (Kd.C_below hC (hB2.out.trans (hB.mono (by have := hB2.out.size; omega)))) j hlt
      have hK := kV_mkK l6 g6 l7 g7
      unfold JV.cells at hcs hK
      obtain ⟨q0, q1, q2, q3, q4, q5, q6, q7, q8, _⟩ := hcs
      have hxm : x ∈ fs := List.mem_of_getElem? hx
      have hwx := wt_memF hxm
      have hix := ints_memF hxm hin
      have hBw := hB2.out.trans (hB.mono (by have := hB2.out.size; omega))
      have hB3 := (Below.refl _ wr).alloc (Nat.le_refl _) (.cells #[.string x.name, .int .i64 x.value.kind, .bool x.value.truth, .bool x.value.neg, .string x.value.digits, .int .i64 x.value.exp, .string x.value.text, .slice A6 x.value.list.length c6, .slice A7 x.value.fields.length c7] 69)
      have hbx := heap_alloc_new wr (.cells #[.string x.name, .int .i64 x.value.kind, .bool x.value.truth, .bool x.value.neg, .string x.value.digits, .int .i64 x.value.exp, .string x.value.text, .slice A6 x.value.list.length c6, .slice A7 x.value.fields.length c7] 69)
      have hF3 := (hF.below hBw).below hB3
      have hK3 := kV.K_below hB3 hK
      have cX := clean_any x.name (wr.alloc (.cells #[.string x.name, .int .i64 x.value.kind, .bool x.value.truth, .bool x.value.neg, .string x.value.digits, .int .i64 x.value.exp, .string x.value.text, .slice A6 x.value.list.length c6, .slice A7 x.value.fields.length c7] 69)) (by omega) hF3.tabs
      have hr1 := (hB.block (w.heap.size + 1) (by omega)).trans hb1.out
      have hB4 := hBw.trans (hB3.mono hBw.size)
      have hnx := norm_any x.value
      have hwz := hB.size
      have hz3 : (wr.alloc (.cells #[.string x.name, .int .i64 x.value.kind, .bool x.value.truth, .bool x.value.neg, .string x.value.digits, .int .i64 x.value.exp, .string x.value.text, .slice A6 x.value.list.length c6, .slice A7 x.value.fields.length c7] 69)).heap.size = wr.heap.size + 1 := by simp
      have hr1' := (heap_alloc_old wr (.cells #[.string x.name, .int .i64 x.value.kind, .bool x.value.truth, .bool x.value.neg, .string x.value.digits, .int .i64 x.value.exp, .string x.value.text, .slice A6 x.value.list.length c6, .slice A7 x.value.fields.length c7] 69) (show w.heap.size + 1 < wr.heap.size by omega)).trans hr1
      replace hr1' := Aside0.mk hr1'
      replace hz3 := Aside0.mk hz3
      replace hx := Aside0.mk hx
      replace hB3 := Aside0.mk hB3
      replace hbx := Aside0.mk hbx
      replace hF3 := Aside0.mk hF3
      replace hK3 := Aside0.mk hK3
      replace hB4 := Aside0.mk hB4
      replace hBw := Aside0.mk hBw
      replace hr1 := Aside0.mk hr1
      replace hnx := Aside0.mk hnx
      clear hxm hK
      by_cases he : clean x.name = nm
      · have hbq : ((clean x.name).toList == nm.toList) = true := by rw [bytes_beq, decide_eq_true he]
        have hgf := Aside0.mk (getF_at hno.out hx.out he)
        clear he
        generalize clean x.name = nm' at cX hbq
        go_wp2_with (first
          | (go_at_call 34; refine cX.mono ?_; rintro e w1 ⟨rfl, hb2⟩; have hb2o := Aside0.mk hb2; rw [hz3.out] at hb2; have hbx1 := (hb2.block wr.heap.size (by omega)).trans hbx.out; have hc := cellAll hbx1; have hf := frozenAll hbx1; have hbz := (hb2.block (w.heap.size + 1) (by omega)).trans hr1'.out; replace hbz := Aside0.mk hbz; have hs1 := hb2.size; rw [hz3.out] at hs1; clear hbx1; replace hb2 := Aside0.mk hb2)
          | (go_at_call 9; refine (hnx.out _ _ (kV.K_below hb2o.out hK3.out) (hF3.out.below hb2o.out) (by omega) hix).mono ?_; rintro e w3 ⟨cs', rfl, hM, hb3⟩; have hbz3 := (hb3.block (w.heap.size + 1) (by omega)).trans hbz.out; have hc3 := cellAll hbz3; have hf3 := frozenAll hbz3; clear hbz3; obtain ⟨vl, vf, rfl, hRl, hRf⟩ := kV_openM hM; obtain ⟨Al, cl, rfl⟩ := Kd.R_slice hRl; obtain ⟨Af, cf, rfl⟩ := Kd.R_slice hRf; unfold JV.cells; clear hM; replace hRl := Aside0.mk hRl; replace hRf := Aside0.mk hRf))
        refine bodyPost_ret (v := .tuple #[.agg #[.int .i64 x.value.norm.kind, .bool x.value.norm.truth, .bool x.value.norm.neg, .string x.value.norm.digits, .int .i64 x.value.norm.exp, .string x.value.norm.text, .slice Al x.value.norm.list.length cl, .slice Af x.value.norm.fields.length cf], .bool true]) (by simp [results, Tryz.results10, go_sem, hc3]) rfl ⟨[.int .i64 x.value.norm.kind, .bool x.value.norm.truth, .bool x.value.norm.neg, .string x.value.norm.digits, .int .i64 x.value.norm.exp, .string x.value.norm.text, .slice Al x.value.norm.list.length cl, .slice Af x.value.norm.fields.length cf], by rw [hgf.out], ?_, ?_⟩
        · rw [hgf.out]
          exact kV_mkM (x := x.value.norm) (R_setsV hRl.out (by omega) (by omega)) (R_sets hRf.out (by omega) (by omega))
        · iterate 8 refine below_set ?_ (by omega)
          exact (hB4.out.trans (hb2.out.mono (by omega))).trans (hb3.mono (by omega))
      · have hbq : ((clean x.name).toList == nm.toList) = false := by rw [bytes_beq, decide_eq_false he]
        replace he := Aside0.mk he
        generalize clean x.name = nm' at cX hbq
        go_wp2_with (go_at_call 34; refine cX.mono ?_; rintro e w1 ⟨rfl, hb2⟩; rw [hz3.out] at hb2; have hs1 := hb2.size; rw [hz3.out] at hs1)
        go_roundw
        case rel =>
          refine ⟨j + 1, by go_num, by omega, ⟨?_⟩, (hB.trans (hB3.out.mono (by omega))).trans (hb2.mono (by omega))⟩
          intro f hf
          have hx2 := hx.out
          rw [List.take_add_one, hx2, Option.toList_some] at hf
          rcases List.mem_append.1 hf with hf | hf
          · exact hno.out f hf
          · rw [List.mem_singleton.1 hf]
            exact he.out
        case measure => simp [intOf]; omega
    · obtain rfl : j = m := by omega
      have hr1 := (hB.block (w.heap.size + 1) (by omega)).trans hb1.out
      have hc3 := cellAll hr1
      have hf3 := frozenAll hr1
      go_wp2_with fail
      have htk : fs.take j = fs := by rw [← hlen.out, List.take_length]
      have hgf := getF_none (fs := fs) (nm := nm) (by have := hno.out; rw [htk] at this; exact this)
      refine bodyPost_ret (v := .tuple #[.agg #[.int .i64 0, .bool false, .bool false, .string ⟨#[]⟩, .int .i64 0, .string ⟨#[]⟩, .slice none 0 0, .slice none 0 0], .bool false]) (by simp [results, Tryz.results10, go_sem, hc3]) rfl ⟨[.int .i64 0, .bool false, .bool false, .string ⟨#[]⟩, .int .i64 0, .string ⟨#[]⟩, .slice none 0 0, .slice none 0 0], by rw [hgf], ?_, ?_⟩
      · rw [hgf]
        exact kV_mkM (x := JV.nul) (R_nilV _ _ _) (R_nilF _ _ _)
      · iterate 8 refine below_set ?_ (by omega)
        exact hB2.out.trans (hB.mono (by omega))
/-- **json.Get.** -/
theorem get_any (x : JV) (name : ByteArray) (w : World) (cs : List Value) (hK : kV.K w x cs) (hF : Facts w) (hs : name.size ≤ 35184372088832) (hwt : x.wt ≤ 4294967296) (hin : x.ints) :
    Calls Tryz.prog 10 #[.agg cs.toArray, .string name] w (Gives w (x.get_ name)) := by
  obtain ⟨A, c, B, d, rfl, hV⟩ := VC.of hK
  obtain ⟨k, t, ng, ds, ex, tx, l, f⟩ := x
  obtain ⟨_, hlc, hCl, hfc, hCf⟩ := hV
  have hll := wtF_len f
  rw [JV.wt] at hwt
  rw [JV.ints] at hin
  unfold JV.get_
  unfold JV.cells
  simp only [JV.kind, JV.truth, JV.neg, JV.digits, JV.exp, JV.text, JV.list, JV.fields] at *
  unfold getK
  by_cases h : k = 5
  · rw [if_pos h]
    subst h
    exact get_in w t ng ds tx ex A B _ c _ d name f (by omega) hfc hCf hF hs (by omega) hin.2.2.2
  · rw [if_neg h]
    exact get_no w k t ng ds tx ex A B _ c _ d name h
end Go.Proofs.YtkdeleafgailhaaGreatDoor
end
section
set_option linter.unusedVariables false
set_option linter.unusedSimpArgs false
namespace Go.Proofs.YtkdeleafgailhaaGreatDoor
open Go Go.RowKit Go.Proofs.YtkdeleafgailhaaGreatDoorW.PrintWords

mutual
def JV.deep : JV → Nat
  | .mk k _ _ _ _ _ l f => if k = 4 then 1 + JV.deepL l else if k = 5 then 1 + JV.deepF f else 0
def JV.deepL : List JV → Nat
  | [] => 0
  | x :: xs => max x.deep (JV.deepL xs)
def JV.deepF : List JF → Nat
  | [] => 0
  | .mk _ v :: xs => max v.deep (JV.deepF xs)
end
theorem deepL_snoc : ∀ (a : List JV) (x : JV), JV.deepL (a ++ [x]) = max (JV.deepL a) x.deep
  | [], x => by simp [JV.deepL]
  | y :: a, x => by
    show JV.deepL (y :: (a ++ [x])) = _
    rw [JV.deepL, JV.deepL, deepL_snoc a x]; omega
theorem deepF_snoc : ∀ (a : List JF) (x : JF), JV.deepF (a ++ [x]) = max (JV.deepF a) x.value.deep
  | [], .mk _ v => by simp [JV.deepF, JF.value]
  | .mk nm v :: a, x => by
    show JV.deepF (.mk nm v :: (a ++ [x])) = _
    rw [JV.deepF, JV.deepF, deepF_snoc a x]; omega
mutual
theorem deep_wt : ∀ (x : JV), x.deep ≤ x.wt
  | .mk k t ng ds ex tx l f => by
    rw [JV.deep, JV.wt]
    have := deepL_wt l
    have := deepF_wt f
    split
    · omega
    · split <;> omega
theorem deepL_wt : ∀ (l : List JV), JV.deepL l ≤ JV.wtL l
  | [] => by rw [JV.deepL]; omega
  | x :: l => by
    rw [JV.deepL, JV.wtL]
    have := deep_wt x
    have := deepL_wt l
    omega
theorem deepF_wt : ∀ (l : List JF), JV.deepF l ≤ JV.wtF l
  | [] => by rw [JV.deepF]; omega
  | .mk nm v :: l => by
    rw [JV.deepF, JV.wtF]
    have := deep_wt v
    have := deepF_wt l
    omega
end
/-- deep itself, as its variable holds it. -/
def cloD (g : Nat) : Value := .func (.func 36) #[] #[.pointer (some ⟨g, 0, none⟩)]
def DeepOK (x : JV) : Prop := ∀ (g : Nat) (w : World) (cs : List Value), kV.K w x cs → w.heap[g]? = some (.cells #[cloD g] 40 (0, 0)) → x.wt ≤ 4294967296 →
  Calls Tryz.prog 36 #[.agg cs.toArray, .pointer (some ⟨g, 0, none⟩)] w fun e w' => e = .returned (.int .i64 x.deep) ∧ Below w.heap.size w w'

set_option maxRecDepth 100000 in
set_option maxHeartbeats 4000000 in
theorem deep_list (g : Nat) (w : World) (t ng : Bool) (ds tx : ByteArray) (ex : Int) (A B : Option Addr) (n c m d : Nat) (xs : List JV) (hn : n ≤ 4294967296) (hC : kV.C w A n xs) (hg : w.heap[g]? = some (.cells #[cloD g] 40 (0, 0))) (hok : ∀ y ∈ xs, DeepOK y) (hwt : JV.wtL xs ≤ 4294967296) :
    Calls Tryz.prog 36 #[.agg #[.int .i64 4, .bool t, .bool ng, .string ds, .int .i64 ex, .string tx, .slice A n c, .slice B m d], .pointer (some ⟨g, 0, none⟩)] w fun e w' => e = .returned (.int .i64 ((1 + JV.deepL xs : Nat) : Int)) ∧ Below w.heap.size w w' := by
  have hlen := hC.1
  have hb0 := (Below.refl _ w).alloc (Nat.le_refl _) (.cells #[.int .i64 4, .bool t, .bool ng, .string ds, .int .i64 ex, .string tx, .slice A n c, .slice B m d] 27)
  have hdw := deepL_wt xs
  replace hlen := Aside0.mk hlen
  replace hg := Aside0.mk hg
  go_enter Tryz.func36, Tryz.ntmps36
  go_wp2_with fail
  go_loopw [4, 16] (fun q i wr => ∃ j : Nat, i = .int .i64 j ∧ q = .int .i64 ((JV.deepL (xs.take j) : Nat) : Int) ∧ j ≤ n ∧ Below w.heap.size w wr) (fun _ i _ => n - (intOf i).toNat)
  case atStart => exact ⟨0, rfl, by simp [JV.deepL], Nat.zero_le _, hb0⟩
  case round =>
    obtain ⟨j, rfl, rfl, hj, hB⟩ := hrel
    have hda := deepL_wt (xs.take j)
    have hdb : JV.wtL (xs.take j) ≤ JV.wtL xs := by
      have : JV.wtL xs = JV.wtL (xs.take j) + JV.wtL (xs.drop j) := by rw [← wtL_app, List.take_append_drop]
      omega
    by_cases hlt : j < n
    · obtain ⟨ad, x, A6, c6, A7, c7, rfl, hx, hcs, l6, g6, l7, g7⟩ := at_V (Kd.C_below hC hB) j hlt
      have hK := kV_mkK l6 g6 l7 g7
      unfold JV.cells at hcs hK
      obtain ⟨q0, q1, q2, q3, q4, q5, q6, q7, _⟩ := hcs
      have hxm : x ∈ xs := List.mem_of_getElem? hx
      have hwx := wt_memL hxm
      have hnx := hok x hxm
      have hdx := deep_wt x
      have hb3 := (Below.refl _ wr).alloc (Nat.le_refl _) (.cells #[.int .i64 x.kind, .bool x.truth, .bool x.neg, .string x.digits, .int .i64 x.exp, .string x.text, .slice A6 x.list.length c6, .slice A7 x.fields.length c7] 27)
      have hgl : g < w.heap.size := (Array.getElem?_eq_some_iff.1 hg.out).1
      have hgr := (hB.block g hgl).trans hg.out
      have hg3 := (hb3.block g (by have := hB.size; omega)).trans hgr
      have hcg := cellAll hg3
      have cD := hnx g _ _ (kV.K_below hb3 hK) hg3 (by omega)
      unfold cloD at hcg
      have hsn : JV.deepL (xs.take (j + 1)) = max (JV.deepL (xs.take j)) x.deep := by
        rw [List.take_add_one, hx, Option.toList_some, deepL_snoc]
      replace hsn := Aside0.mk hsn
      replace hx := Aside0.mk hx
      replace hb3 := Aside0.mk hb3
      clear hK hgr hg3 hnx hxm
      generalize JV.deepL (xs.take j) = a at *
      generalize x.deep = b at *
      go_wp2_with (go_at_call 36; refine cD.mono ?_; rintro e w1 ⟨rfl, hb4⟩)
      go_roundw
      case rel =>
        refine ⟨j + 1, by go_num, ?_, by omega, (hB.trans (hb3.out.mono hB.size)).trans (hb4.mono (by have := hB.size; simp; omega))⟩
        rw [hsn.out]
        congr 1
        omega
      case measure => simp [intOf]; omega
    · obtain rfl : j = n := by omega
      have htk : xs.take j = xs := by rw [← hlen.out, List.take_length]
      rw [htk]
      go_wp2_with fail
      go_ret
      exact ⟨by congr 2, hB⟩

set_option maxRecDepth 100000 in
set_option maxHeartbeats 4000000 in
theorem deep_fields (g : Nat) (w : World) (t ng : Bool) (ds tx : ByteArray) (ex : Int) (A B : Option Addr) (n c m d : Nat) (xs : List JF) (hn : n ≤ 4294967296) (hC : kF.C w A n xs) (hg : w.heap[g]? = some (.cells #[cloD g] 40 (0, 0))) (hok : ∀ y ∈ xs, DeepOK y.value) (hwt : JV.wtF xs ≤ 4294967296) :
    Calls Tryz.prog 36 #[.agg #[.int .i64 5, .bool t, .bool ng, .string ds, .int .i64 ex, .string tx, .slice B m d, .slice A n c], .pointer (some ⟨g, 0, none⟩)] w fun e w' => e = .returned (.int .i64 ((1 + JV.deepF xs : Nat) : Int)) ∧ Below w.heap.size w w' := by
  have hlen := hC.1
  have hb0 := (Below.refl _ w).alloc (Nat.le_refl _) (.cells #[.int .i64 5, .bool t, .bool ng, .string ds, .int .i64 ex, .string tx, .slice B m d, .slice A n c] 27)
  have hdw := deepF_wt xs
  replace hlen := Aside0.mk hlen
  replace hg := Aside0.mk hg
  go_enter Tryz.func36, Tryz.ntmps36
  go_wp2_with fail
  go_loopw [4, 31] (fun q i wr => ∃ j : Nat, i = .int .i64 j ∧ q = .int .i64 ((JV.deepF (xs.take j) : Nat) : Int) ∧ j ≤ n ∧ Below w.heap.size w wr) (fun _ i _ => n - (intOf i).toNat)
  case atStart => exact ⟨0, rfl, by simp [JV.deepF], Nat.zero_le _, hb0⟩
  case round =>
    obtain ⟨j, rfl, rfl, hj, hB⟩ := hrel
    have hda := deepF_wt (xs.take j)
    have hdb : JV.wtF (xs.take j) ≤ JV.wtF xs := by
      have : JV.wtF xs = JV.wtF (xs.take j) + JV.wtF (xs.drop j) := by rw [← wtF_app, List.take_append_drop]
      omega
    by_cases hlt : j < n
    · obtain ⟨ad, x, A6, c6, A7, c7, rfl, hx, hcs, l6, g6, l7, g7⟩ := at_F (Kd.C_below hC hB) j hlt
      have hK := kV_mkK l6 g6 l7 g7
      unfold JV.cells at hcs hK
      obtain ⟨q0, q1, q2, q3, q4, q5, q6, q7, q8, _⟩ := hcs
      have hxm : x ∈ xs := List.mem_of_getElem? hx
      have hwx := wt_memF hxm
      have hnx := hok x hxm
      have hdx := deep_wt x.value
      have hb3 := (Below.refl _ wr).alloc (Nat.le_refl _) (.cells #[.string x.name, .int .i64 x.value.kind, .bool x.value.truth, .bool x.value.neg, .string x.value.digits, .int .i64 x.value.exp, .string x.value.text, .slice A6 x.value.list.length c6, .slice A7 x.value.fields.length c7] 69)
      have hgl : g < w.heap.size := (Array.getElem?_eq_some_iff.1 hg.out).1
      have hgr := (hB.block g hgl).trans hg.out
      have hg3 := (hb3.block g (by have := hB.size; omega)).trans hgr
      have hcg := cellAll hg3
      have cD := hnx g _ _ (kV.K_below hb3 hK) hg3 (by omega)
      unfold cloD at hcg
      have hsn : JV.deepF (xs.take (j + 1)) = max (JV.deepF (xs.take j)) x.value.deep := by
        rw [List.take_add_one, hx, Option.toList_some, deepF_snoc]
      replace hsn := Aside0.mk hsn
      replace hx := Aside0.mk hx
      replace hb3 := Aside0.mk hb3
      clear hK hgr hg3 hnx hxm
      generalize JV.deepF (xs.take j) = a at *
      generalize x.value.deep = b at *
      go_wp2_with (go_at_call 36; refine cD.mono ?_; rintro e w1 ⟨rfl, hb4⟩)
      go_roundw
      case rel =>
        refine ⟨j + 1, by go_num, ?_, by omega, (hB.trans (hb3.out.mono hB.size)).trans (hb4.mono (by have := hB.size; simp; omega))⟩
        rw [hsn.out]
        congr 1
        omega
      case measure => simp [intOf]; omega
    · obtain rfl : j = n := by omega
      have htk : xs.take j = xs := by rw [← hlen.out, List.take_length]
      rw [htk]
      go_wp2_with fail
      go_ret
      exact ⟨by congr 2, hB⟩

set_option maxRecDepth 100000 in
set_option maxHeartbeats 4000000 in
theorem deep_rest (g : Nat) (w : World) (k : Int) (t ng : Bool) (ds tx : ByteArray) (ex : Int) (A B : Option Addr) (n c m d : Nat) (h4 : ¬ k = 4) (h5 : ¬ k = 5) :
    Calls Tryz.prog 36 #[.agg #[.int .i64 k, .bool t, .bool ng, .string ds, .int .i64 ex, .string tx, .slice A n c, .slice B m d], .pointer (some ⟨g, 0, none⟩)] w fun e w' => e = .returned (.int .i64 0) ∧ Below w.heap.size w w' := by
  have hb0 := (Below.refl _ w).alloc (Nat.le_refl _) (.cells #[.int .i64 k, .bool t, .bool ng, .string ds, .int .i64 ex, .string tx, .slice A n c, .slice B m d] 27)
  have b4 : (k == 4) = false := by simpa using h4
  have b5 : (k == 5) = false := by simpa using h5
  go_enter Tryz.func36, Tryz.ntmps36
  go_wp2_with fail
  go_ret
  exact ⟨rfl, hb0⟩
theorem deep_step (x : JV) (hl : ∀ y ∈ x.list, DeepOK y) (hf : ∀ f ∈ x.fields, DeepOK f.value) : DeepOK x := by
  intro g w cs hK hg hwt
  obtain ⟨A, c, B, d, rfl, hV⟩ := VC.of hK
  obtain ⟨k, t, ng, ds, ex, tx, l, f⟩ := x
  obtain ⟨_, hlc, hCl, hfc, hCf⟩ := hV
  have hl1 := wtL_len l
  have hl2 := wtF_len f
  rw [JV.wt] at hwt
  rw [JV.deep]
  unfold JV.cells
  simp only [JV.kind, JV.truth, JV.neg, JV.digits, JV.exp, JV.text, JV.list, JV.fields] at *
  by_cases h4 : k = 4
  · rw [if_pos h4]; subst h4
    exact deep_list g w t ng ds tx ex A B _ c _ d l (by omega) hCl hg hl (by omega)
  rw [if_neg h4]
  by_cases h5 : k = 5
  · rw [if_pos h5]; subst h5
    exact deep_fields g w t ng ds tx ex B A _ d _ c f (by omega) hCf hg hf (by omega)
  rw [if_neg h5]
  exact deep_rest g w k t ng ds tx ex A B _ c _ d h4 h5
theorem deep_all : ∀ (n : Nat) (x : JV), x.wt ≤ n → DeepOK x
  | 0, .mk k t ng ds ex tx l f, h => by rw [JV.wt] at h; omega
  | n + 1, .mk k t ng ds ex tx l f, h => by
    rw [JV.wt] at h
    exact deep_step _ (fun y hy => deep_all n y (by have := wt_memL hy; simp only [JV.list] at this; omega)) (fun g hg => deep_all n _ (by have := wt_memF hg; simp only [JV.fields] at this; omega))
theorem deep_any (x : JV) : DeepOK x := deep_all _ x (Nat.le_refl _)

set_option maxRecDepth 100000 in
set_option maxHeartbeats 4000000 in
/-- **json.Depth.** -/
theorem depth_any (x : JV) (w : World) (cs : List Value) (hK : kV.K w x cs) (hF : Facts w) (hwt : x.wt ≤ 1073741824) (hin : x.ints) :
    Calls Tryz.prog 12 #[.agg cs.toArray] w fun e w' => e = .returned (.int .i64 x.norm.deep) ∧ Below w.heap.size w w' := by
  obtain ⟨A, c, B, d, rfl, _⟩ := VC.of hK
  have hB0 := below_drew (((Below.refl _ w).alloc (Nat.le_refl _) (.cells #[.int .i64 x.kind, .bool x.truth, .bool x.neg, .string x.digits, .int .i64 x.exp, .string x.text, .slice A x.list.length c, .slice B x.fields.length d] 27)).alloc (by simp) (.cells #[.func (.func 36) #[] #[.pointer (some ⟨w.heap.size + 1, 0, none⟩)]] 40))
  obtain ⟨e0, e1⟩ := boxes w (.cells #[.int .i64 x.kind, .bool x.truth, .bool x.neg, .string x.digits, .int .i64 x.exp, .string x.text, .slice A x.list.length c, .slice B x.fields.length d] 27) (.cells #[.func (.func 36) #[] #[.pointer (some ⟨w.heap.size + 1, 0, none⟩)]] 40)
  have hs2 : ((w.alloc (.cells #[.int .i64 x.kind, .bool x.truth, .bool x.neg, .string x.digits, .int .i64 x.exp, .string x.text, .slice A x.list.length c, .slice B x.fields.length d] 27)).alloc (.cells #[.func (.func 36) #[] #[.pointer (some ⟨w.heap.size + 1, 0, none⟩)]] 40)).drew.heap.size = w.heap.size + 2 := by simp [World.drew]
  unfold JV.cells at *
  have cN := norm_any x _ _ (kV.K_below hB0 hK) (hF.below hB0) (by omega) hin
  have hnw := norm_wt x
  have cD := deep_any x.norm
  replace hB0 := Aside0.mk hB0
  replace e1 := Aside0.mk e1
  replace hs2 := Aside0.mk hs2
  replace cD := Aside0.mk cD
  clear hK hF e0
  go_enter Tryz.func12, Tryz.ntmps12
  go_wp2_with fail
  go_region_with (first
    | (go_at_call 36; refine (cD.out _ w1 _ hM1.out hg1.out (by omega)).mono ?_; rintro e w2 ⟨rfl, hb2⟩)
    | (go_at_call 9; refine cN.mono ?_; rintro e w1 ⟨cs', rfl, hM, hb1⟩; rw [hs2.out] at hb1; have hg1 := (hb1.block (w.heap.size + 1) (by omega)).trans e1.out; have hcg := cellAll hg1; replace hg1 := Aside0.mk hg1; have hM1 := kV.K_of_M hM; obtain ⟨vl, vf, rfl, hRl, hRf⟩ := kV_openM hM; obtain ⟨Al, cl, rfl⟩ := Kd.R_slice hRl; obtain ⟨Af, cf, rfl⟩ := Kd.R_slice hRf; unfold JV.cells at hM1; unfold JV.cells; clear hRl hRf hM; replace hM1 := Aside0.mk hM1))
  all_goals (go_wp2_with fail)
  all_goals go_ret
  all_goals refine ⟨?_, hB0.out.trans ((hb1.mono (by omega)).trans (hb2.mono (by have := hb1.size; rw [hs2.out] at this; omega)))⟩
  all_goals simp [Act.put, go_sem]
end Go.Proofs.YtkdeleafgailhaaGreatDoor
end
