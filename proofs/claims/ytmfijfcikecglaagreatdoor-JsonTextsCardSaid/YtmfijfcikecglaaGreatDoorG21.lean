/- What a row lists of the package-level variables: where the errors lie. voyagelaw02.awake: true. There and back, plainly: a text that is told in quotes is read as it. There and back, plainly: texts; what clean gives is valid. voyageref02.follows, letter: a letter's bytes. -/
import Derived.Test.YtmfijfcikecglaaGreatDoorG20
import Derived.LaidLaws
import Derived.Test.YtmfijfcikecglaaGreatDoorG10
import Derived.Test.YtmfijfcikecglaaGreatDoorG16
import Derived.Lib.MapLaws
import Derived.Lib.ValidLaws
import Derived.Test.YtmfijfcikecglaaGreatDoorG8
import Derived.Test.YtmfijfcikecglaaGreatDoorG11
section
set_option linter.unusedVariables false
set_option linter.unusedSimpArgs false
namespace Go.Proofs.YtmfijfcikecglaaGreatDoor
open Go Go.RowKit Go.Shelf Go.Lib

theorem laid_sentinel2 {P : Program} {n nm : String} {text : List UInt8} {r : List (String × DataW Unit)} {W : World} {g : Nat} {ti tp te ts : TypeId} {ms : Array (String × TypeId)} {f : Field}
    (h : laidMet P ((n, .iface nm (.ptr (.agg [.lit (.string text)]))) :: r) W)
    (hg : P.globalNamed n = some g) (ht : (P.globals[g]?).map (·.type) = some ti) (hi : P.underlying ti = some (.interface ms)) (hrow : ∀ u, P.typeName? 3 u = some nm → u = tp)
    (hp : P.underlying tp = some (.pointer te)) (he : P.underlying te = some (.struct #[f])) (hft : f.type = ts) (hfo : f.offset = 0) (hs : P.underlying ts = some .string) (hc : P.cellsOf te = 1) (hcs : P.cellsOf ts = 1) :
    ∃ (a : Addr), W.var? P n = some #[.iface tp (.pointer (some a))] ∧ ∃ c t, W.heap[a.block]? = some (.cells c t (0, 0)) := by
  obtain ⟨ps, ⟨g0, t0, cs0, f0, p0, q0, hg0, ht0, hv0, hd0, _, e0⟩, _, hrows⟩ := h
  obtain rfl := Option.some.inj (hg.symm.trans hg0)
  obtain rfl := Option.some.inj (ht.symm.trans ht0)
  subst e0
  obtain ⟨l0⟩ := cs0
  have ok0 : ∀ u v, l0 = [.iface u v] → Value.okWide P W .any 0 u v := fun u v e => by
    subst e
    exact (hrows g 0 (by simp [MemPlace.row])).2 u v (by simpa using World.var?_cell hg0 hv0 0)
  obtain ⟨a0, s0, rfl, hc0, hs0, hz0, rfl⟩ := errorString_of_trod hi hrow hp he hft hfo hs hc hcs hd0 ok0
  exact ⟨a0, hv0, (hrows a0.block a0.off (by simp [MemPlace.row])).1⟩
theorem sentinel_mem2 {W : World} {n : String} {text : List UInt8} {g : Nat} (hg : Tryz.prog.globalNamed n = some g) (ht : (Tryz.prog.globals[g]?).map (·.type) = some 46) : ∀ {l : List (String × DataW Unit)}, laidMet Tryz.prog l W → (n, DataW.iface "*errors.errorString" (.ptr (.agg [.lit (.string text)]))) ∈ l → ∃ a, W.var? Tryz.prog n = some #[ev a] ∧ ∃ c t, W.heap[a.block]? = some (.cells c t (0, 0))
  | x :: r, h, hm => by
    rcases List.mem_cons.1 hm with rfl | hm
    · obtain ⟨a, hv, hc⟩ := laid_sentinel2 h hg ht Tryz.underlying46 row_es Tryz.underlying207 Tryz.underlying209 rfl rfl Tryz.underlying9 (by kernel_rfl) cellsOf_str
      exact ⟨a, hv, hc⟩
    · exact sentinel_mem2 hg ht h.tail hm
theorem penv2_of {l hs : List (String × DataW Unit)} {W : World} (hd : laidMet Tryz.prog l W) (hh : handlesMet Tryz.prog hs W) (mh : ("errors.errorType", Rows.laid_errors_errorType) ∈ hs)
    (m1 : ("voyage/api.ErrDue", Rows.laid_voyage_api_ErrDue) ∈ l) (m2 : ("voyage/api.ErrLong", Rows.laid_voyage_api_ErrLong) ∈ l) (m3 : ("voyage/api.ErrDeep", Rows.laid_voyage_api_ErrDeep) ∈ l) (m4 : ("voyage/api.ErrTwice", Rows.laid_voyage_api_ErrTwice) ∈ l)
    (m5 : ("voyage/api.ErrText", Rows.laid_voyage_api_ErrText) ∈ l) (m6 : ("voyage/api.ErrNumber", Rows.laid_voyage_api_ErrNumber) ∈ l) (m7 : ("voyage/api.ErrExponent", Rows.laid_voyage_api_ErrExponent) ∈ l) (m8 : ("strconv.ErrSyntax", Rows.laid_strconv_ErrSyntax) ∈ l)
    (m9 : ("unicode/utf8.first", Rows.laid_unicode_utf8_first) ∈ l) (m10 : ("unicode/utf8.acceptRanges", Rows.laid_unicode_utf8_acceptRanges) ∈ l) (m11 : ("internal/strconv.uint64pow10", Rows.laid_internal_strconv_uint64pow10) ∈ l) : ∃ E, PEnv E W ∧ ErrB E W := by
  obtain ⟨a1, h1, b1⟩ := sentinel_mem2 (g := 1) (by kernel_rfl) (by kernel_rfl) hd m1
  obtain ⟨a2, h2, b2⟩ := sentinel_mem2 (g := 0) (by kernel_rfl) (by kernel_rfl) hd m2
  obtain ⟨a3, h3, b3⟩ := sentinel_mem2 (g := 5) (by kernel_rfl) (by kernel_rfl) hd m3
  obtain ⟨a4, h4, b4⟩ := sentinel_mem2 (g := 6) (by kernel_rfl) (by kernel_rfl) hd m4
  obtain ⟨a5, h5, b5⟩ := sentinel_mem2 (g := 4) (by kernel_rfl) (by kernel_rfl) hd m5
  obtain ⟨a6, h6, b6⟩ := sentinel_mem2 (g := 2) (by kernel_rfl) (by kernel_rfl) hd m6
  obtain ⟨a7, h7, b7⟩ := sentinel_mem2 (g := 3) (by kernel_rfl) (by kernel_rfl) hd m7
  obtain ⟨E, hE⟩ := penv_of hd hh mh m1 m2 m3 m4 m5 m6 m7 m8 m9 m10 m11
  have key : ∀ {n : String} {a b : Addr}, W.var? Tryz.prog n = some #[ev a] → W.var? Tryz.prog n = some #[ev b] → a = b := fun {n a b} h h' => by
    have e := h.symm.trans h'
    unfold ev at e
    simpa using e
  have k1 := key h1 hE.errs.due
  have k2 := key h2 hE.errs.long
  have k3 := key h3 hE.errs.deep
  have k4 := key h4 hE.errs.twice
  have k5 := key h5 hE.errs.text
  have k6 := key h6 hE.errs.number
  have k7 := key h7 hE.errs.exponent
  refine ⟨E, hE, fun a ha => ?_⟩
  simp only [List.mem_cons, List.not_mem_nil, or_false] at ha
  rcases ha with rfl | rfl | rfl | rfl | rfl | rfl | rfl
  · rw [← k1]; exact b1
  · rw [← k2]; exact b2
  · rw [← k3]; exact b3
  · rw [← k4]; exact b4
  · rw [← k5]; exact b5
  · rw [← k6]; exact b6
  · rw [← k7]; exact b7
end Go.Proofs.YtmfijfcikecglaaGreatDoor
end
section
set_option linter.unusedVariables false
set_option linter.unusedSimpArgs false
namespace Go.Proofs.YtmfijfcikecglaaGreatDoor
open Go Go.RowKit Go.Proofs.YtmfijfcikecglaaGreatDoorW.PrintWords

theorem parse1_any (E : ErrV) (w : World) (hP : PEnv E w) : Calls Tryz.prog 29 #[.string ⟨#[32, 123, 34, 98, 34, 32, 58, 32, 91, 49, 46, 53, 48, 44, 32, 45, 48, 93, 44, 32, 34, 97, 34, 58, 34, 92, 117, 48, 48, 101, 57, 92, 47, 34, 125]⟩] w fun e w' => ParseGives E w (.ok val1 35) e w' := by
  have h := parse_any E text1 w (by decide) hP
  rw [parse1] at h
  exact h
theorem parse2_any (E : ErrV) (w : World) (hP : PEnv E w) : Calls Tryz.prog 29 #[.string ⟨#[91, 49, 44, 93]⟩] w fun e w' => ∃ v, e = .returned (.tuple #[.agg nulCells.toArray, v]) ∧ IsFault v 3 (ev E.due) w' ∧ Below w.heap.size w w' := by
  have h := parse_any E text2 w (by decide) hP
  rw [parse2] at h
  exact h
theorem print1_any (x : JV) (w : World) (cs : List Value) (hK : kV.K w x cs) (hF : Facts w) (hwt : x.wt ≤ 1073741824) (hin : x.ints) (hp : (⟨x.print.toArray⟩ : ByteArray) = print1) :
    Calls Tryz.prog 12 #[.agg cs.toArray] w fun e w' => e = .returned (.string ⟨#[123, 34, 97, 34, 58, 34, 195, 169, 47, 34, 44, 34, 98, 34, 58, 91, 49, 53, 101, 45, 49, 44, 48, 93, 125]⟩) ∧ Below w.heap.size w w' := by
  have h := print_any x w cs hK hF hwt hin
  rw [hp] at h
  exact h
theorem ints_num0 : num0.ints := by
  unfold num0
  rw [JV.ints, JV.intsL, JV.intsF]
  exact ⟨by omega, by omega, trivial, trivial⟩
theorem same0_any (x : JV) (w : World) (cs : List Value) (hK : kV.K w x cs) (hF : Facts w) (hwt : x.wt ≤ 1073741824) (hin : x.ints) (hp : x.print = num0.print) :
    Calls Tryz.prog 26 #[.agg cs.toArray, .agg #[.int .i64 2, .bool false, .bool false, .string ⟨#[]⟩, .int .i64 0, .string ⟨#[]⟩, .slice none 0 0, .slice none 0 0]] w fun e w' => e = .returned (.bool true) ∧ Below w.heap.size w w' := by
  have hM : kV.M w w.heap.size (fun _ => True) num0 (num0.cells (.slice none 0 0) (.slice none 0 0)) := kV_mkM (R_nilV _ _ _) (R_nilF _ _ _)
  have h := same_any x num0 w cs _ hK (kV.K_of_M hM) hF hwt hin (by decide +kernel) ints_num0
  rw [decide_eq_true hp] at h
  exact h
def odd9 : JV := .mk 9 false false ⟨#[]⟩ 0 ⟨#[120]⟩ [] []
theorem norm_odd9 : odd9.norm = JV.nul := by kernel_rfl
theorem norm9_any (w : World) (hF : Facts w) : Calls Tryz.prog 15 #[.agg #[.int .i64 9, .bool false, .bool false, .string ⟨#[]⟩, .int .i64 0, .string ⟨#[120]⟩, .slice none 0 0, .slice none 0 0]] w fun e w' => ∃ A c B d, e = .returned (.agg #[.int .i64 0, .bool false, .bool false, .string ⟨#[]⟩, .int .i64 0, .string ⟨#[]⟩, .slice A 0 c, .slice B 0 d]) ∧ Below w.heap.size w w' := by
  have hM : kV.M w w.heap.size (fun _ => True) odd9 (odd9.cells (.slice none 0 0) (.slice none 0 0)) := kV_mkM (R_nilV _ _ _) (R_nilF _ _ _)
  have h := norm_any odd9 w _ (kV.K_of_M hM) hF (by decide +kernel) (by unfold odd9; rw [JV.ints, JV.intsL, JV.intsF]; exact ⟨by omega, by omega, trivial, trivial⟩)
  rw [norm_odd9] at h
  refine h.mono ?_
  rintro e w' ⟨cs, rfl, hM2, hb⟩
  obtain ⟨l, f, rfl, hl, hf⟩ := kV_openM hM2
  obtain ⟨A, c, rfl⟩ := Kd.R_slice hl
  obtain ⟨B, d, rfl⟩ := Kd.R_slice hf
  exact ⟨A, c, B, d, rfl, hb⟩
theorem field0 (k : Int) (t ng : Bool) (ds tx : ByteArray) (ex : Int) (A B : Option Addr) (n c m d : Nat) (W : World) : (Instr.field 27 (.agg #[.int .i64 k, .bool t, .bool ng, .string ds, .int .i64 ex, .string tx, .slice A n c, .slice B m d]) 0).run Tryz.prog W = .ok (.int .i64 k) W := by kernel_rfl
theorem ints_get1 : (JV.mk 4 false false ⟨#[]⟩ 0 ⟨#[]⟩ [num15, num0] []).ints := by
  unfold num15 num0
  simp [JV.ints, JV.intsL, JV.intsF]
theorem ints_val1 : val1.ints := by
  unfold val1 num15 num0
  simp [JV.ints, JV.intsL, JV.intsF]

set_option maxRecDepth 100000 in
set_option maxHeartbeats 8000000 in
/-- **voyagelaw02.awake.** -/
theorem awake_any (E : ErrV) (w : World) (hP : PEnv E w) : Calls Tryz.prog 10 #[] w fun e w' => e = .returned (.bool true) ∧ Below w.heap.size w w' := by
  have cP1 := Aside0.mk (parse1_any E w hP)
  have hwt1 := wt1
  have hi1 := ints_val1
  have hpr := Aside0.mk printed1
  have hdp := Aside0.mk deep1
  have hget := Aside0.mk get1
  generalize val1 = x1 at *
  have hwt7 : (JV.mk 4 false false ⟨#[]⟩ 0 ⟨#[]⟩ [num15, num0] []).wt ≤ 100 := by decide +kernel
  have hi7 := ints_get1
  have hat := Aside0.mk at1
  generalize (JV.mk 4 false false ⟨#[]⟩ 0 ⟨#[]⟩ [num15, num0] []) = x7 at *
  have hwt9 : num0.wt ≤ 100 := by decide +kernel
  have hi9 := ints_num0
  obtain ⟨x9, hx9⟩ : ∃ x9, num0 = x9 := ⟨_, rfl⟩
  have hsm : Aside0 (x9.print = num0.print) := ⟨by rw [hx9]⟩
  rw [hx9] at hat hwt9 hi9
  clear hx9
  replace hP := Aside0.mk hP
  have heq := fun W => eq_err E.due W
  have hfld := field0
  go_enter Tryz.func10, Tryz.ntmps10
  go_wp2_with (first
    | (go_at_call 15; refine cN.out.mono ?_; clear cN; rintro e w9 ⟨An, cn, Bn, dn, rfl, hb9⟩; have hL9 := Aside0.mk (hL8.out.trans (hb9.mono hL8.out.size)))
    | (go_at_call 26; refine cS.out.mono ?_; clear cS; rintro e w8 ⟨rfl, hb8⟩; have hL8 := Aside0.mk (hL7.out.trans (hb8.mono hL7.out.size)); have cN := Aside0.mk (norm9_any w8 (hP.out.below hL8.out).facts))
    | (go_at_call 18; refine cD.out.mono ?_; clear cD; rintro e w7 ⟨rfl, hb7⟩; rw [hdp.out]; have hL7 := Aside0.mk (hL6.out.trans (hb7.mono hL6.out.size)); have hj7 := Aside0.mk ((hb7.block _ (blk_lt hj6.out)).trans hj6.out); have hc7 := cellAll hj7.out; have hd7 := (hP.out.below hL7.out).errs.due_cell; have hKj := Aside0.mk (kV.K_below hb7 hKi.out); have cS := Aside0.mk (same0_any x9 _ _ hKj.out (hP.out.below hL7.out).facts (by omega) hi9 hsm.out); clear hc6)
    | (go_at_call 12; refine cPr.out.mono ?_; clear cPr; rintro e w6 ⟨rfl, hb6⟩; have hL6 := Aside0.mk (hL5.out.trans (hb6.mono hL5.out.size)); have hk6 := Aside0.mk ((hb6.block _ (blk_lt hk5.out)).trans hk5.out); have hj6 := Aside0.mk ((hb6.block _ (blk_lt hj5.out)).trans hj5.out); have hc6 := cellAll hk6.out; have hKh := Aside0.mk (kV.K_below hb6 hKf.out); have hKi := Aside0.mk (kV.K_below hb6 hKg.out); have cD := Aside0.mk (depth_any x1 _ _ hKh.out (hP.out.below hL6.out).facts (by omega) hi1); clear hc5)
    | (go_at_call 17; refine cA.out.mono ?_; clear cA; rintro e w5 hG5; rw [hat.out] at hG5; obtain ⟨cs9, rfl, hM9, hb5⟩ := hG5; simp only at hM9; obtain ⟨l9, f9, rfl, hRl9, hRf9⟩ := kV_openM hM9; obtain ⟨A9, c9, rfl⟩ := Kd.R_slice hRl9; obtain ⟨B9, d9, rfl⟩ := Kd.R_slice hRf9; clear hRl9 hRf9; have hK9 := kV.K_of_M hM9; clear hM9; unfold JV.cells at hK9 ⊢; have hB5 := (Below.refl w5.heap.size w5).alloc (Nat.le_refl _) (.cells #[.int .i64 x9.kind, .bool x9.truth, .bool x9.neg, .string x9.digits, .int .i64 x9.exp, .string x9.text, .slice A9 x9.list.length c9, .slice B9 x9.fields.length d9] 27); have hL5 := Aside0.mk (hL4.out.trans ((hb5.trans (hB5.mono hb5.size)).mono hL4.out.size)); have hk5 := Aside0.mk ((hB5.block _ (blk_lt ((hb5.block _ (blk_lt hk4.out)).trans hk4.out))).trans ((hb5.block _ (blk_lt hk4.out)).trans hk4.out)); have hc5 := cellAll hk5.out; have hKf := Aside0.mk (kV.K_below hB5 (kV.K_below hb5 hKd.out)); have hKg := Aside0.mk (kV.K_below hB5 hK9); have hj5 := Aside0.mk (heap_alloc_new w5 (.cells #[.int .i64 x9.kind, .bool x9.truth, .bool x9.neg, .string x9.digits, .int .i64 x9.exp, .string x9.text, .slice A9 x9.list.length c9, .slice B9 x9.fields.length d9] 27)); have cPr := Aside0.mk (print1_any x1 _ _ hKf.out (hP.out.below hL5.out).facts (by omega) hi1 hpr.out); clear hB5 hK9)
    | (go_at_call 16; refine cG.out.mono ?_; clear cG; rintro e w4 hG4; rw [hget.out] at hG4; obtain ⟨cs7, rfl, hM7, hb4⟩ := hG4; simp only at hM7; obtain ⟨l7, f7, rfl, hRl7, hRf7⟩ := kV_openM hM7; obtain ⟨A7, c7, rfl⟩ := Kd.R_slice hRl7; obtain ⟨B7, d7, rfl⟩ := Kd.R_slice hRf7; clear hRl7 hRf7; have hK7 := kV.K_of_M hM7; clear hM7; unfold JV.cells at hK7 ⊢; have hB4 := (Below.refl w4.heap.size w4).alloc (Nat.le_refl _) (.cells #[.int .i64 x7.kind, .bool x7.truth, .bool x7.neg, .string x7.digits, .int .i64 x7.exp, .string x7.text, .slice A7 x7.list.length c7, .slice B7 x7.fields.length d7] 27); have hL4 := Aside0.mk (hL3.out.trans ((hb4.trans (hB4.mono hb4.size)).mono hL3.out.size)); have hk4 := Aside0.mk ((hB4.block _ (blk_lt ((hb4.block _ (blk_lt hk3.out)).trans hk3.out))).trans ((hb4.block _ (blk_lt hk3.out)).trans hk3.out)); have hKd := Aside0.mk (kV.K_below hB4 (kV.K_below hb4 hKc.out)); have hKe := Aside0.mk (kV.K_below hB4 hK7); have cA := Aside0.mk (at_any x7 1 _ _ hKe.out (hP.out.below hL4.out).facts (by omega) hi7); clear hB4 hK7 hc3)
    | (go_at_call 30; refine cPl.out.mono ?_; clear cPl; rintro e w3 ⟨rfl, hb3⟩; have hL3 := Aside0.mk (hL2.out.trans (hb3.mono hL2.out.size)); have hk3 := Aside0.mk ((hb3.block _ (blk_lt hk2.out)).trans hk2.out); have hc3 := cellAll hk3.out; have hKc := Aside0.mk (kV.K_below hb3 hKb.out); have cG := Aside0.mk (get_any x1 ⟨#[98]⟩ w3 _ hKc.out (hP.out.below hL3.out).facts (by decide) (by omega) hi1))
    | (go_at_call 29; refine cP2.out.mono ?_; clear cP2; rintro e w2 ⟨v2, rfl, hF2, hb2⟩; have hB2 := (Below.refl w2.heap.size w2).alloc (Nat.le_refl _) (.cells #[.int .i64 0, .bool false, .bool false, .string ⟨#[]⟩, .int .i64 0, .string ⟨#[]⟩, .slice none 0 0, .slice none 0 0] 27); have hL2 := Aside0.mk (hL1.out.trans ((hb2.trans (hB2.mono hb2.size)).mono hL1.out.size)); have hk2 := Aside0.mk ((hB2.block _ (blk_lt ((hb2.block _ (blk_lt hk1.out)).trans hk1.out))).trans ((hb2.block _ (blk_lt hk1.out)).trans hk1.out)); have hKb := Aside0.mk (kV.K_below hB2 (kV.K_below hb2 hKa.out)); have cPl := Aside0.mk (place_any 3 E.due v2 _ (hF2.below hB2) (hP.out.below hL2.out).et); unfold nulCells; clear hB2 hF2)
    | (go_at_call 29; refine cP1.out.mono ?_; clear cP1; rintro e w1 ⟨cs1, rfl, hM1, hb1⟩; obtain ⟨l1, f1, rfl, hRl1, hRf1⟩ := kV_openM hM1; obtain ⟨A1, c1, rfl⟩ := Kd.R_slice hRl1; obtain ⟨B1, d1, rfl⟩ := Kd.R_slice hRf1; clear hRl1 hRf1; have hK1 := kV.K_of_M hM1; clear hM1; unfold JV.cells at hK1 ⊢; have hB1 := (Below.refl w1.heap.size w1).alloc (Nat.le_refl _) (.cells #[.int .i64 x1.kind, .bool x1.truth, .bool x1.neg, .string x1.digits, .int .i64 x1.exp, .string x1.text, .slice A1 x1.list.length c1, .slice B1 x1.fields.length d1] 27); have hk1 := Aside0.mk (heap_alloc_new w1 (.cells #[.int .i64 x1.kind, .bool x1.truth, .bool x1.neg, .string x1.digits, .int .i64 x1.exp, .string x1.text, .slice A1 x1.list.length c1, .slice B1 x1.fields.length d1] 27)); have hL1 := Aside0.mk (hb1.trans (hB1.mono hb1.size)); have hKa := Aside0.mk (kV.K_below hB1 hK1); have hz1 := Aside0.mk hb1.size; have cP2 := Aside0.mk (parse2_any E _ (hP.out.below hL1.out)); clear hK1 hB1))
  go_ret
  exact ⟨rfl, hL9.out⟩
end Go.Proofs.YtmfijfcikecglaaGreatDoor
end
section
set_option linter.unusedVariables false
set_option linter.unusedSimpArgs false
namespace Go.Proofs.YtmfijfcikecglaaGreatDoor
open Go Go.RowKit

/-! ### bytes at a place -/
/-- The text s has the bytes q from j on. -/
def Has (s : ByteArray) (j : Nat) (q : List UInt8) : Prop := j + q.length ≤ s.size ∧ ∀ k c, q[k]? = some c → byteAt s (j + k) = c.toNat
theorem Has.nil {s : ByteArray} {j : Nat} (h : j ≤ s.size) : Has s j [] := ⟨by simpa using h, fun k c h => by simp at h⟩
theorem Has.left {s : ByteArray} {j : Nat} {a b : List UInt8} (h : Has s j (a ++ b)) : Has s j a := by
  obtain ⟨h1, h2⟩ := h
  rw [List.length_append] at h1
  refine ⟨by omega, fun k c hk => h2 k c ?_⟩
  rw [List.getElem?_append_left (List.getElem?_eq_some_iff.1 hk).1]
  exact hk
theorem Has.right {s : ByteArray} {j : Nat} {a b : List UInt8} (h : Has s j (a ++ b)) : Has s (j + a.length) b := by
  obtain ⟨h1, h2⟩ := h
  rw [List.length_append] at h1
  refine ⟨by omega, fun k c hk => ?_⟩
  have := h2 (a.length + k) c (by rw [List.getElem?_append_right (by omega), Nat.add_sub_cancel_left]; exact hk)
  rw [← Nat.add_assoc] at this
  exact this
theorem Has.head {s : ByteArray} {j : Nat} {c : UInt8} {q : List UInt8} (h : Has s j (c :: q)) : byteAt s j = c.toNat ∧ j < s.size := by
  obtain ⟨h1, h2⟩ := h
  refine ⟨by simpa using h2 0 c rfl, by simp at h1; omega⟩
theorem Has.tail {s : ByteArray} {j : Nat} {c : UInt8} {q : List UInt8} (h : Has s j (c :: q)) : Has s (j + 1) q := Has.right (a := [c]) h
theorem byteAt_get {s : ByteArray} {j : Nat} (h : j < s.size) : byteAt s j = (s.get! j).toNat := by
  unfold byteAt
  rw [dif_pos h]
  congr 1
  show s.data[j] = s.data[j]!
  rw [getElem!_pos s.data j h]
/-- A whole text has its bytes. -/
theorem Has.all (s : ByteArray) : Has s 0 s.data.toList := by
  refine ⟨by rw [Array.length_toList, Nat.zero_add]; exact Nat.le_refl _, fun k c hk => ?_⟩
  rw [Nat.zero_add]
  rw [Array.getElem?_toList] at hk
  obtain ⟨hl, hc⟩ := Array.getElem?_eq_some_iff.1 hk
  unfold byteAt
  rw [dif_pos (show k < s.size from hl)]
  show (s.data[k]).toNat = _
  rw [hc]
theorem Has.part (s : ByteArray) (j n : Nat) (h : j + n ≤ s.size) : Has s j ((s.data.toList.drop j).take n) := by
  have h0 := Has.all s
  have e : s.data.toList = s.data.toList.take j ++ ((s.data.toList.drop j).take n ++ (s.data.toList.drop j).drop n) := by rw [List.take_append_drop, List.take_append_drop]
  have hj : (s.data.toList.take j).length = j := by rw [List.length_take, Array.length_toList]; have : s.data.size = s.size := rfl; omega
  rw [e] at h0
  have h1 := h0.right.left
  rw [hj, Nat.zero_add] at h1
  exact h1
theorem Has.extract {s : ByteArray} {j : Nat} {q : List UInt8} (h : Has s j q) : s.extract j (j + q.length) = ⟨q.toArray⟩ := by
  have h2 := Has.part s j q.length h.1
  have e : (s.data.toList.drop j).take q.length = q := by
    apply List.ext_getElem?
    intro k
    by_cases hk : k < q.length
    · have hl : k < ((s.data.toList.drop j).take q.length).length := by have h3 := h.1; have h5 : s.data.toList.length = s.size := Array.length_toList; rw [List.length_take, List.length_drop, h5]; omega
      have a := h2.2 k _ (List.getElem?_eq_getElem hl)
      have b := h.2 k _ (List.getElem?_eq_getElem hk)
      rw [List.getElem?_eq_getElem hl, List.getElem?_eq_getElem hk]
      congr 1
      exact UInt8.toNat_inj.1 (a.symm.trans b)
    · rw [List.getElem?_eq_none (by rw [List.length_take]; omega), List.getElem?_eq_none (by omega)]
  apply ByteArray.ext
  apply Array.ext'
  show (s.extract j (j + q.length)).data.toList = q
  rw [← e]
  simp [ByteArray.data_extract, List.extract_eq_take_drop, Nat.add_sub_cancel_left]

/-! ### letters -/
theorem decodeN_same {n m b0 b1 b2 b3 c1 c2 c3 r k : Nat} (h : Lib.decodeN n b0 b1 b2 b3 = (r, k)) (hv : ¬ (r = 65533 ∧ k = 1)) (e1 : 1 < k → c1 = b1) (e2 : 2 < k → c2 = b2) (e3 : 3 < k → c3 = b3) (hm : k ≤ m) : Lib.decodeN m b0 c1 c2 c3 = (r, k) := by
  rcases Lib.decodeN_shape n b0 b1 b2 b3 with ⟨c, e⟩ | ⟨a1, a2, a3, av, e⟩ | ⟨a1, a2, a3, a4, av, ax, e⟩ | ⟨a1, a2, a3, a4, a5, av, aw, e⟩ | e
  all_goals (rw [e] at h; obtain ⟨rfl, rfl⟩ := Prod.mk.inj h)
  · unfold Lib.decodeN; rw [if_pos c]
  · rw [e1 (by omega)]
    unfold Lib.decodeN; rw [if_neg (by omega), if_pos (by omega), if_pos (by omega)]
  · rw [e1 (by omega), e2 (by omega)]
    unfold Lib.decodeN; rw [if_neg (by omega), if_neg (by omega), if_pos (by omega), if_pos (by omega)]
  · rw [e1 (by omega), e2 (by omega), e3 (by omega)]
    unfold Lib.decodeN; rw [if_neg (by omega), if_neg (by omega), if_neg (by omega), if_pos (by omega), if_pos (by omega)]
  · exact absurd ⟨rfl, rfl⟩ hv
theorem decodeN_pos (n b0 b1 b2 b3 : Nat) : 1 ≤ (Lib.decodeN n b0 b1 b2 b3).2 := by
  rcases Lib.decodeN_shape n b0 b1 b2 b3 with ⟨c, e⟩ | ⟨a1, a2, a3, av, e⟩ | ⟨a1, a2, a3, a4, av, ax, e⟩ | ⟨a1, a2, a3, a4, a5, av, aw, e⟩ | e
  all_goals (rw [e]; simp)
theorem get_drop (l : List UInt8) (p k : Nat) : (l.drop p).getD k 0 = l.getD (p + k) 0 := by
  simp [List.getD, List.getElem?_drop]
/-- A letter at a place, copied elsewhere, is read as it. -/
theorem decode_same {l : List UInt8} {s : ByteArray} {j : Nat} (hne : l ≠ []) (hv : ¬ ((Lib.decodeL l).1 = 65533 ∧ (Lib.decodeL l).2 = 1)) (h : Has s j (l.take (Lib.decodeL l).2)) : Utf8.decode s j = Lib.decodeL l := by
  have hl : 0 < l.length := List.length_pos_iff.2 hne
  have hw := Lib.decodeN_width_le l.length (l.getD 0 0).toNat (l.getD 1 0).toNat (l.getD 2 0).toNat (l.getD 3 0).toNat hl
  have hd := Lib.decodeL_N l
  have hp := decodeN_pos l.length (l.getD 0 0).toNat (l.getD 1 0).toNat (l.getD 2 0).toNat (l.getD 3 0).toNat
  rw [hd] at hv h ⊢
  generalize hr : Lib.decodeN l.length (l.getD 0 0).toNat (l.getD 1 0).toNat (l.getD 2 0).toNat (l.getD 3 0).toNat = d at *
  obtain ⟨r, k⟩ := d
  simp only at hv h hw hp
  have hlen : (l.take k).length = k := by rw [List.length_take]; omega
  have hb := h.1
  rw [hlen] at hb
  have hk : ∀ i, i < k → (s.get! (j + i)).toNat = (l.getD i 0).toNat := by
    intro i hi
    have h2 := h.2 i (l.getD i 0) (by rw [List.getElem?_take, if_pos hi, List.getD, List.getElem?_eq_getElem (show i < l.length by omega)]; rfl)
    rw [byteAt_get (by omega)] at h2
    exact h2
  rw [Lib.decode_at]
  have h0 := hk 0 (by omega)
  rw [Nat.add_zero] at h0
  rw [h0]
  exact decodeN_same hr hv (fun h => hk 1 h) (fun h => hk 2 h) (fun h => hk 3 h) (by omega)

/-! ### a text in quotes -/
theorem hex_back : ∀ r : Fin 32, hexL 0 [48, 48, hexd (r.val / 16), hexd (r.val % 16)] = some r.val := by decide +kernel
theorem Has.unit {s : ByteArray} {j r : Nat} (hr : r < 32) (h : Has s j [92, 117, 48, 48, hexd (r / 16), hexd (r % 16)]) : unitAt s j = (r, true) := by
  have h1 := h.1
  simp only [List.length_cons, List.length_nil] at h1
  unfold unitAt
  rw [if_neg (by omega)]
  have e1 := Has.extract (q := [92, 117]) (Has.left (b := [48, 48, hexd (r / 16), hexd (r % 16)]) h)
  have e2 := Has.extract (q := [48, 48, hexd (r / 16), hexd (r % 16)]) (Has.right (a := [92, 117]) h)
  simp only [List.length_cons, List.length_nil, Nat.reduceAdd] at e1 e2
  rw [show j + 2 + 4 = j + 6 by omega] at e2
  rw [e1, if_pos rfl, e2]
  have := hex_back ⟨r, hr⟩
  simp only at this
  show (match hexL 0 [48, 48, hexd (r / 16), hexd (r % 16)] with | some v => (v, true) | none => (0, false)) = _
  rw [this]
/-- A letter as it is told in quotes is read as it. -/
theorem let_back {s : ByteArray} {j r : Nat} {q : List UInt8} (h : Has s j q) (hr : (quoteRune r = q ∧ r < 32) ∨ (r = 34 ∧ q = [92, 34]) ∨ (r = 92 ∧ q = [92, 92])) : byteAt s j ≠ 34 ∧ letAt s j = (r, q.length) ∧ 0 < q.length := by
  have key : ∀ (c : UInt8) (v : Nat) (rest : List UInt8), q = 92 :: c :: rest → shortEsc c.toNat = some v → byteAt s j ≠ 34 ∧ letAt s j = (v, 2) := by
    intro c v rest hq hv
    subst hq
    have h0 := h.head
    have h1 := h.tail.head
    have e0 : byteAt s j = 92 := h0.1
    refine ⟨by omega, ?_⟩
    unfold letAt escAt
    rw [if_neg (by omega), if_pos e0, if_neg (by omega), h1.1, hv]
  rcases hr with ⟨hq, hr⟩ | ⟨rfl, rfl⟩ | ⟨rfl, rfl⟩
  · have hall : r = 8 ∨ r = 9 ∨ r = 10 ∨ r = 12 ∨ r = 13 ∨ (r ≠ 8 ∧ r ≠ 9 ∧ r ≠ 10 ∧ r ≠ 12 ∧ r ≠ 13) := by omega
    rcases hall with rfl | rfl | rfl | rfl | rfl | ⟨n1, n2, n3, n4, n5⟩
    · have hq2 : q = [92, 98] := by rw [← hq]; rfl
      obtain ⟨a, b⟩ := key 98 8 [] hq2 rfl
      subst hq2; exact ⟨a, b, by simp⟩
    · have hq2 : q = [92, 116] := by rw [← hq]; rfl
      obtain ⟨a, b⟩ := key 116 9 [] hq2 rfl
      subst hq2; exact ⟨a, b, by simp⟩
    · have hq2 : q = [92, 110] := by rw [← hq]; rfl
      obtain ⟨a, b⟩ := key 110 10 [] hq2 rfl
      subst hq2; exact ⟨a, b, by simp⟩
    · have hq2 : q = [92, 102] := by rw [← hq]; rfl
      obtain ⟨a, b⟩ := key 102 12 [] hq2 rfl
      subst hq2; exact ⟨a, b, by simp⟩
    · have hq2 : q = [92, 114] := by rw [← hq]; rfl
      obtain ⟨a, b⟩ := key 114 13 [] hq2 rfl
      subst hq2; exact ⟨a, b, by simp⟩
    · have hq2 : q = [92, 117, 48, 48, hexd (r / 16), hexd (r % 16)] := by
        rw [← hq]
        unfold quoteRune
        rw [if_neg (by omega), if_neg (by omega), if_neg n1, if_neg n2, if_neg n3, if_neg n4, if_neg n5, if_pos hr]
      subst hq2
      have hu := Has.unit hr h
      have h0 := h.head
      have h1 := h.tail.head
      have e0 : byteAt s j = 92 := h0.1
      have e1 : byteAt s (j + 1) = 117 := h1.1
      refine ⟨by omega, ?_, by simp⟩
      unfold letAt escAt
      rw [if_neg (by omega), if_pos e0, if_neg (by omega), e1]
      show (if (unitAt s j).2 = false then (0, 0) else if (unitAt s j).1 < 55296 ∨ 57344 ≤ (unitAt s j).1 then ((unitAt s j).1, 6) else _) = _
      rw [hu, if_neg (by simp), if_pos (by simp only; omega)]
      rfl
  · obtain ⟨a, b⟩ := key 34 34 [] rfl rfl
    exact ⟨a, b, by simp⟩
  · obtain ⟨a, b⟩ := key 92 92 [] rfl rfl
    exact ⟨a, b, by simp⟩
end Go.Proofs.YtmfijfcikecglaaGreatDoor
end
section
set_option linter.unusedVariables false
set_option linter.unusedSimpArgs false
namespace Go.Proofs.YtmfijfcikecglaaGreatDoor
open Go Go.RowKit

theorem get_bang (t : ByteArray) (p : Nat) : t.get! p = t.data.toList.getD p 0 := by
  show t.data[p]! = _
  by_cases h : p < t.data.size
  · rw [getElem!_pos t.data p h, List.getD, List.getElem?_eq_getElem (by rw [Array.length_toList]; exact h)]
    simp
  · rw [getElem!_neg t.data p h, List.getD, List.getElem?_eq_none (by rw [Array.length_toList]; omega)]
    rfl
theorem decode_drop (t : ByteArray) (p : Nat) : Utf8.decode t p = Lib.decodeL (t.data.toList.drop p) := by
  rw [Lib.decode_at, Lib.decodeL_N, List.length_drop, Array.length_toList, get_drop, get_drop, get_drop, get_drop, get_bang, get_bang, get_bang, get_bang]
  rfl
theorem encodeRune_len (r : Int) : 1 ≤ (Lib.encodeRune r).length := by
  unfold Lib.encodeRune
  rw [List.length_map]
  exact (Lib.encodeRuneZ_length r).1
/-- The first byte of a letter that is neither small nor told apart. -/
theorem first_byte {l : List UInt8} {b : UInt8} {t : List UInt8} (hl : l = b :: t) (h32 : 32 ≤ (Lib.decodeL l).1) (h34 : (Lib.decodeL l).1 ≠ 34) (h92 : (Lib.decodeL l).1 ≠ 92) : 32 ≤ b.toNat ∧ b.toNat ≠ 34 ∧ b.toNat ≠ 92 := by
  subst hl
  by_cases hb : 128 ≤ b.toNat
  · omega
  · have e : Lib.decodeL (b :: t) = (b.toNat, 1) := by
      rw [Lib.decodeL_N]
      unfold Lib.decodeN
      simp only [List.getD_cons_zero]
      rw [if_pos (by omega)]
    rw [e] at h32 h34 h92
    exact ⟨h32, h34, h92⟩
theorem quoteRune_plain {r : Nat} (h32 : 32 ≤ r) (h34 : r ≠ 34) (h92 : r ≠ 92) : quoteRune r = Lib.encodeRune r := by
  unfold quoteRune
  rw [if_neg h34, if_neg h92, if_neg (by omega), if_neg (by omega), if_neg (by omega), if_neg (by omega), if_neg (by omega), if_neg (by omega)]
theorem quote_back (t : ByteArray) : ∀ (fuel pos : Nat) (s : ByteArray) (j n : Nat), Has s j (quoteFrom t fuel pos ++ [34]) → t.size ≤ pos + fuel → pos ≤ t.size → Lib.validD (t.data.toList.drop pos) = true → s.size < j + n →
    textF s n j (t.data.toList.take pos) = .ok t.data.toList (j + (quoteFrom t fuel pos).length + 1)
  | fuel, pos, s, j, n, h, hf, hp, hv, hn => by
    have hjs := h.1
    rw [List.length_append] at hjs
    simp only [List.length_cons, List.length_nil] at hjs
    obtain ⟨n, rfl⟩ : ∃ m, n = m + 1 := ⟨n - 1, by omega⟩
    by_cases hpos : pos < t.size
    · obtain ⟨fuel, rfl⟩ : ∃ m, fuel = m + 1 := ⟨fuel - 1, by omega⟩
      rw [quoteFrom, if_pos hpos, decode_drop] at h ⊢
      have hlen : (t.data.toList.drop pos).length = t.size - pos := by rw [List.length_drop, Array.length_toList]; rfl
      obtain ⟨b, tl, hl⟩ : ∃ b tl, t.data.toList.drop pos = b :: tl := by
        cases hc : t.data.toList.drop pos with
        | nil => rw [hc] at hlen; simp at hlen; omega
        | cons b tl => exact ⟨b, tl, rfl⟩
      have hne : t.data.toList.drop pos ≠ [] := by rw [hl]; simp
      rw [Lib.validD_step _ hne] at hv
      have hgood : ¬ ((Lib.decodeL (t.data.toList.drop pos)).1 = 65533 ∧ (Lib.decodeL (t.data.toList.drop pos)).2 = 1) := by
        intro hb; rw [if_pos hb] at hv; cases hv
      rw [if_neg hgood] at hv
      have henc := Lib.encode_decode _ hne hgood
      have hw : (Lib.decodeL (t.data.toList.drop pos)).2 ≤ t.size - pos ∧ 1 ≤ (Lib.decodeL (t.data.toList.drop pos)).2 := by
        rw [Lib.decodeL_N, ← hlen]
        have h1 := Lib.decodeN_width_le (t.data.toList.drop pos).length ((t.data.toList.drop pos).getD 0 0).toNat ((t.data.toList.drop pos).getD 1 0).toNat ((t.data.toList.drop pos).getD 2 0).toNat ((t.data.toList.drop pos).getD 3 0).toNat (by omega)
        have h2 := decodeN_pos (t.data.toList.drop pos).length ((t.data.toList.drop pos).getD 0 0).toNat ((t.data.toList.drop pos).getD 1 0).toNat ((t.data.toList.drop pos).getD 2 0).toNat ((t.data.toList.drop pos).getD 3 0).toNat
        omega
      obtain ⟨r, hr⟩ : ∃ r, (Lib.decodeL (t.data.toList.drop pos)).1 = r := ⟨_, rfl⟩
      obtain ⟨k, hk⟩ : ∃ k, (Lib.decodeL (t.data.toList.drop pos)).2 = k := ⟨_, rfl⟩
      rw [hr, hk] at h hgood henc
      rw [hk] at hw hv
      rw [hr, hk]
      rw [List.append_assoc] at h
      have key : byteAt s j ≠ 34 ∧ letAt s j = (r, (quoteRune r).length) ∧ 0 < (quoteRune r).length := by
        by_cases h34 : r = 34
        · exact let_back h.left (.inr (.inl ⟨h34, by subst h34; rfl⟩))
        by_cases h92 : r = 92
        · exact let_back h.left (.inr (.inr ⟨h92, by subst h92; rfl⟩))
        by_cases h32 : r < 32
        · exact let_back h.left (.inl ⟨rfl, h32⟩)
        · have hq := quoteRune_plain (r := r) (by omega) h34 h92
          have hL := h.left
          rw [hq, henc] at hL
          rw [hq, henc]
          have hfb := first_byte hl (by rw [hr]; omega) (by rw [hr]; exact h34) (by rw [hr]; exact h92)
          have hlk : ((t.data.toList.drop pos).take k).length = k := by rw [List.length_take, hlen]; omega
          have hb0 : byteAt s j = b.toNat := by
            have := hL.2 0 b (by rw [List.getElem?_take, if_pos (by omega), hl]; rfl)
            simpa using this
          have hds := decode_same hne (by rw [hr, hk]; exact hgood) (by rw [hk]; exact hL)
          have hjl := hL.1
          rw [hlk] at hjl
          refine ⟨by omega, ?_, by omega⟩
          unfold letAt
          rw [if_neg (by omega), if_neg (by omega), hds, hr, hk, if_neg hgood, hlk]
          exact Prod.ext hr hk
      obtain ⟨k1, k2, k3⟩ := key
      rw [textF, if_neg k1, k2, if_neg (by show ¬ (quoteRune r).length = 0; omega)]
      show textF s n (j + (quoteRune r).length) (t.data.toList.take pos ++ Lib.encodeRune (r : Int)) = _
      have hacc : t.data.toList.take pos ++ Lib.encodeRune (r : Int) = t.data.toList.take (pos + k) := by
        rw [henc, List.take_add]
      rw [hacc]
      have ih := quote_back t fuel (pos + k) s (j + (quoteRune r).length) n h.right (by omega) (by omega) (by rw [← List.drop_drop]; exact hv) (by omega)
      rw [ih, List.length_append]
      congr 1
      omega
    · have hq : quoteFrom t fuel pos = [] := by
        cases fuel with
        | zero => rfl
        | succ m => rw [quoteFrom, if_neg hpos]
      rw [hq] at h ⊢
      have h0 : byteAt s j = 34 := h.head.1
      rw [textF, if_pos h0]
      have htk : t.data.toList.take pos = t.data.toList := List.take_of_length_le (by rw [Array.length_toList]; show t.size ≤ pos; omega)
      rw [htk]
      rfl
/-- **A valid text, told in quotes, is read as it.** -/
theorem text_back {t s : ByteArray} {i : Nat} (hv : Lib.validD t.data.toList = true) (h : Has s i (quoted t)) : textAt s i = .ok t.data.toList (i + (quoted t).length) := by
  unfold quoted at h ⊢
  have := quote_back t t.size 0 s (i + 1) (s.size + 1) h.tail (by omega) (by omega) (by simpa using hv) (by omega)
  unfold textAt
  rw [List.take_zero] at this
  rw [this]
  simp only [List.length_cons, List.length_append, List.length_nil]
  congr 1
  omega

/-! ### clean gives what is valid -/
theorem bytes_nat (z : Int) (h : 0 ≤ z ∧ z < 256) : (z.toNat.toUInt8).toNat = z.toNat := by
  have : z.toNat < 256 := by omega
  simp [Nat.toUInt8, UInt8.toNat_ofNat', Nat.mod_eq_of_lt this]
theorem validD_enc (r : Nat) (h : r < 55296 ∨ (57343 < r ∧ r ≤ 1114111)) (l : List UInt8) : Lib.validD (Lib.encodeRune (r : Int) ++ l) = Lib.validD l := by
  have hne : Lib.encodeRune (r : Int) ++ l ≠ [] := by
    have := encodeRune_len (r : Int)
    intro e
    rw [List.append_eq_nil_iff] at e
    rw [e.1] at this
    simp at this
  have key : Lib.decodeL (Lib.encodeRune (r : Int) ++ l) = (r, (Lib.encodeRune (r : Int)).length) ∧ ¬ (r = 65533 ∧ (Lib.encodeRune (r : Int)).length = 1) := by
    unfold Lib.encodeRune
    by_cases h1 : r ≤ 127
    · rw [Lib.encodeRuneZ_one (by omega) (by omega)]
      refine ⟨?_, by omega⟩
      rw [Lib.decodeL_N]
      simp only [List.map_cons, List.map_nil, List.cons_append, List.nil_append, List.getD_cons_zero]
      rw [bytes_nat _ (by omega)]
      unfold Lib.decodeN
      rw [if_pos (by omega)]
      simp
    by_cases h2 : r ≤ 2047
    · rw [Lib.encodeRuneZ_two (by omega) (by omega)]
      refine ⟨?_, by simp⟩
      rw [Lib.decodeL_N]
      simp only [List.map_cons, List.map_nil, List.cons_append, List.nil_append, List.getD_cons_zero, List.getD_cons_succ, List.length_cons, List.length_append, List.length_nil]
      rw [bytes_nat _ (by omega), bytes_nat _ (by omega)]
      unfold Lib.decodeN
      rw [if_neg (by omega), if_pos (by omega), if_pos (by omega)]
      apply Prod.ext <;> simp only <;> omega
    by_cases h3 : r ≤ 65535
    · rw [Lib.encodeRuneZ_three (by omega)]
      refine ⟨?_, by simp⟩
      rw [Lib.decodeL_N]
      simp only [List.map_cons, List.map_nil, List.cons_append, List.nil_append, List.getD_cons_zero, List.getD_cons_succ, List.length_cons, List.length_append, List.length_nil]
      rw [bytes_nat _ (by omega), bytes_nat _ (by omega), bytes_nat _ (by omega)]
      unfold Lib.decodeN
      rw [if_neg (by omega), if_neg (by omega), if_pos (by omega), if_pos (by omega)]
      apply Prod.ext <;> simp only <;> omega
    · rw [Lib.encodeRuneZ_four (by omega) (by omega)]
      refine ⟨?_, by simp⟩
      rw [Lib.decodeL_N]
      simp only [List.map_cons, List.map_nil, List.cons_append, List.nil_append, List.getD_cons_zero, List.getD_cons_succ, List.length_cons, List.length_append, List.length_nil]
      rw [bytes_nat _ (by omega), bytes_nat _ (by omega), bytes_nat _ (by omega), bytes_nat _ (by omega)]
      unfold Lib.decodeN
      rw [if_neg (by omega), if_neg (by omega), if_neg (by omega), if_pos (by omega), if_pos (by omega)]
      apply Prod.ext <;> simp only <;> omega
  rw [Lib.validD_step _ hne, key.1, if_neg key.2, List.drop_left]
theorem cleanFrom_valid (s : ByteArray) : ∀ (fuel pos : Nat), Lib.validD (cleanFrom s fuel pos) = true
  | 0, pos => rfl
  | fuel + 1, pos => by
    rw [cleanFrom]
    split
    · rw [decode_drop, Lib.decodeL_N]
      rw [validD_enc]
      · exact cleanFrom_valid s fuel _
      · rcases Lib.decodeN_shape (s.data.toList.drop pos).length ((s.data.toList.drop pos).getD 0 0).toNat ((s.data.toList.drop pos).getD 1 0).toNat ((s.data.toList.drop pos).getD 2 0).toNat ((s.data.toList.drop pos).getD 3 0).toNat with ⟨c, e⟩ | ⟨a1, a2, a3, av, e⟩ | ⟨a1, a2, a3, a4, av, ax, e⟩ | ⟨a1, a2, a3, a4, a5, av, aw, e⟩ | e
        all_goals (rw [e]; simp only; omega)
    · rfl
theorem clean_valid (s : ByteArray) : Lib.validD (clean s).data.toList = true := by
  unfold clean
  split
  · assumption
  · exact cleanFrom_valid s _ _
theorem clean_of_valid {s : ByteArray} (h : Lib.validD s.data.toList = true) : clean s = s := by
  unfold clean
  rw [if_pos h]
end Go.Proofs.YtmfijfcikecglaaGreatDoor
end
section
set_option linter.unusedVariables false
set_option linter.unusedSimpArgs false
namespace Go.Proofs.YtmfijfcikecglaaGreatDoor
open Go Go.RowKit Go.Proofs.YtmfijfcikecglaaGreatDoorW.PrintWords

def foll (s : ByteArray) (i lo hi : Nat) : Bool := decide (i < s.size) && (decide (lo ≤ byteAt s i) && decide (byteAt s i ≤ hi))
def letLo (c : Nat) : Nat := if c = 224 then 160 else if c = 240 then 144 else 128
def letHi (c : Nat) : Nat := if c = 237 then 159 else if c = 244 then 143 else 191
/-- How many bytes the letter at a place has; 0: none begins there. -/
def letterN (s : ByteArray) (i : Nat) : Nat :=
  if byteAt s i < 128 then 1
  else if byteAt s i < 194 ∨ 244 < byteAt s i then 0
  else if byteAt s i < 224 ∧ foll s (i + 1) (letLo (byteAt s i)) (letHi (byteAt s i)) = true then 2
  else if 224 ≤ byteAt s i ∧ byteAt s i < 240 ∧ foll s (i + 1) (letLo (byteAt s i)) (letHi (byteAt s i)) = true ∧ foll s (i + 2) 128 191 = true then 3
  else if 240 ≤ byteAt s i ∧ foll s (i + 1) (letLo (byteAt s i)) (letHi (byteAt s i)) = true ∧ foll s (i + 2) 128 191 = true ∧ foll s (i + 3) 128 191 = true then 4
  else 0

set_option maxRecDepth 100000 in
set_option maxHeartbeats 4000000 in
theorem follows_any (s : ByteArray) (i lo hi : Nat) (w : World) (hs : s.size ≤ 9223372036854775807) :
    Calls Tryz.prog 96 #[.string s, .int .i64 i, .int .u8 lo, .int .u8 hi] w fun e w' => e = .returned (.bool (foll s i lo hi)) ∧ w' = w := by
  unfold foll
  by_cases h : i < s.size
  · have h1 : (i : Int) < (s.size : Int) := by omega
    have hb : (s[i]'h).toNat = byteAt s i := by unfold byteAt; rw [dif_pos h]
    have hd : decide (i < s.size) = true := decide_eq_true h
    rw [hd, Bool.true_and]
    by_cases h2 : lo ≤ byteAt s i
    · have h3 : (lo : Int) ≤ ((s[i]'h).toNat : Int) := by omega
      rw [decide_eq_true h2, Bool.true_and]
      go_enter Tryz.func96, Tryz.ntmps96
      go_wp2_with fail
      go_ret
      refine ⟨?_, rfl⟩
      simp [hb]
    · have h3 : ¬ (lo : Int) ≤ ((s[i]'h).toNat : Int) := by omega
      rw [decide_eq_false h2, Bool.false_and]
      go_enter Tryz.func96, Tryz.ntmps96
      go_wp2_with fail
      go_ret
      exact ⟨rfl, rfl⟩
  · have h1 : ¬ (i : Int) < (s.size : Int) := by omega
    rw [decide_eq_false h, Bool.false_and]
    go_enter Tryz.func96, Tryz.ntmps96
    go_wp2_with fail
    go_ret
    exact ⟨rfl, rfl⟩

set_option maxRecDepth 100000 in
set_option maxHeartbeats 8000000 in
theorem letter_any (s : ByteArray) (i : Nat) (w : World) (hs : s.size ≤ 4611686018427387904) (hi : i < s.size) :
    Calls Tryz.prog 70 #[.string s, .int .i64 i] w fun e w' => e = .returned (.int .i64 (letterN s i)) ∧ w' = w := by
  have hb : (s[i]'hi).toNat = byteAt s i := by unfold byteAt; rw [dif_pos hi]
  have hi2 : (i : Int) < (s.size : Int) := by omega
  have cF := fun (j lo hi : Nat) (W : World) => follows_any s j lo hi W (by omega)
  unfold letterN
  generalize hc : byteAt s i = c at *
  by_cases h1 : c < 128
  · rw [if_pos h1]
    have b1 : (c : Int) < 128 := by omega
    go_enter Tryz.func70, Tryz.ntmps70
    go_wp2_with fail
    go_ret
    exact ⟨rfl, rfl⟩
  rw [if_neg h1]
  have b1 : ¬ (c : Int) < 128 := by omega
  by_cases h2 : c < 194 ∨ 244 < c
  · rw [if_pos h2]
    have b2 : (c : Int) < 194 ∨ (¬ (c : Int) < 194 ∧ (244 : Int) < (c : Int)) := by omega
    rcases b2 with b2 | ⟨b2, b3⟩
    all_goals go_enter Tryz.func70, Tryz.ntmps70
    all_goals go_wp2_with fail
    all_goals go_ret
    all_goals exact ⟨rfl, rfl⟩
  rw [if_neg h2]
  have b2 : ¬ (c : Int) < 194 := by omega
  have b3 : ¬ (244 : Int) < (c : Int) := by omega
  have c2 := cF (i + 1) (letLo c) (letHi c)
  have c3 := cF (i + 2) 128 191
  have c4 := cF (i + 3) 128 191
  rw [show (((i + 1 : Nat) : Int)) = (i : Int) + 1 by omega] at c2
  rw [show (((i + 2 : Nat) : Int)) = (i : Int) + 2 by omega] at c3
  rw [show (((i + 3 : Nat) : Int)) = (i : Int) + 3 by omega] at c4
  have hcase : (c < 224) ∨ (c = 224) ∨ ((225 ≤ c ∧ c < 237) ∨ (238 ≤ c ∧ c < 240)) ∨ (c = 237) ∨ (c = 240) ∨ (241 ≤ c ∧ c < 244) ∨ (c = 244) := by omega
  generalize foll s (i + 1) (letLo c) (letHi c) = f2 at *
  generalize foll s (i + 2) 128 191 = f3 at *
  generalize foll s (i + 3) 128 191 = f4 at *
  rcases hcase with h | h | h | h | h | h | h
  · have l1 : letLo c = 128 := by unfold letLo; rw [if_neg (by omega), if_neg (by omega)]
    have l2 : letHi c = 191 := by unfold letHi; rw [if_neg (by omega), if_neg (by omega)]
    rw [l1, l2] at c2
    have e224 : ((c : Int) == 224) = false := by simp; omega
    have e237 : ((c : Int) == 237) = false := by simp; omega
    have e240 : ((c : Int) == 240) = false := by simp; omega
    have e244 : ((c : Int) == 244) = false := by simp; omega
    have g1 : (c : Int) < 224 := by omega
    have g2 : ¬ (224 : Int) ≤ (c : Int) := by omega
    have g3 : ¬ (240 : Int) ≤ (c : Int) := by omega
    cases f2 <;> cases f3 <;> cases f4
    all_goals go_enter Tryz.func70, Tryz.ntmps70
    all_goals go_wp2_with (first | (go_at_call 96; have k4 := k3; refine (c4 _).mono ?_; rintro e w' ⟨rfl, rfl⟩) | (go_at_call 96; have k3 := k2; refine (c3 _).mono ?_; rintro e w' ⟨rfl, rfl⟩) | (go_at_call 96; have k2 := trivial; refine (c2 _).mono ?_; rintro e w' ⟨rfl, rfl⟩))
    all_goals go_ret
    all_goals (refine ⟨?_, rfl⟩; congr 2 <;> (try simp) <;> (try omega))
  · have l1 : letLo c = 160 := by unfold letLo; rw [if_pos h]
    have l2 : letHi c = 191 := by unfold letHi; rw [if_neg (by omega), if_neg (by omega)]
    rw [l1, l2] at c2
    subst h
    cases f2 <;> cases f3 <;> cases f4
    all_goals go_enter Tryz.func70, Tryz.ntmps70
    all_goals go_wp2_with (first | (go_at_call 96; have k4 := k3; refine (c4 _).mono ?_; rintro e w' ⟨rfl, rfl⟩) | (go_at_call 96; have k3 := k2; refine (c3 _).mono ?_; rintro e w' ⟨rfl, rfl⟩) | (go_at_call 96; have k2 := trivial; refine (c2 _).mono ?_; rintro e w' ⟨rfl, rfl⟩))
    all_goals go_ret
    all_goals (refine ⟨?_, rfl⟩; congr 2 <;> (try simp) <;> (try omega))
  · have l1 : letLo c = 128 := by unfold letLo; rw [if_neg (by omega), if_neg (by omega)]
    have l2 : letHi c = 191 := by unfold letHi; rw [if_neg (by omega), if_neg (by omega)]
    rw [l1, l2] at c2
    have e224 : ((c : Int) == 224) = false := by simp; omega
    have e237 : ((c : Int) == 237) = false := by simp; omega
    have e240 : ((c : Int) == 240) = false := by simp; omega
    have e244 : ((c : Int) == 244) = false := by simp; omega
    have g1 : ¬ (c : Int) < 224 := by omega
    have g2 : (224 : Int) ≤ (c : Int) := by omega
    have g3 : (c : Int) < 240 := by omega
    have g4 : ¬ (240 : Int) ≤ (c : Int) := by omega
    cases f2 <;> cases f3 <;> cases f4
    all_goals go_enter Tryz.func70, Tryz.ntmps70
    all_goals go_wp2_with (first | (go_at_call 96; have k4 := k3; refine (c4 _).mono ?_; rintro e w' ⟨rfl, rfl⟩) | (go_at_call 96; have k3 := k2; refine (c3 _).mono ?_; rintro e w' ⟨rfl, rfl⟩) | (go_at_call 96; have k2 := trivial; refine (c2 _).mono ?_; rintro e w' ⟨rfl, rfl⟩))
    all_goals go_ret
    all_goals (refine ⟨?_, rfl⟩; congr 2 <;> (try simp) <;> (try omega))
  · have l1 : letLo c = 128 := by unfold letLo; rw [if_neg (by omega), if_neg (by omega)]
    have l2 : letHi c = 159 := by unfold letHi; rw [if_pos h]
    rw [l1, l2] at c2
    subst h
    cases f2 <;> cases f3 <;> cases f4
    all_goals go_enter Tryz.func70, Tryz.ntmps70
    all_goals go_wp2_with (first | (go_at_call 96; have k4 := k3; refine (c4 _).mono ?_; rintro e w' ⟨rfl, rfl⟩) | (go_at_call 96; have k3 := k2; refine (c3 _).mono ?_; rintro e w' ⟨rfl, rfl⟩) | (go_at_call 96; have k2 := trivial; refine (c2 _).mono ?_; rintro e w' ⟨rfl, rfl⟩))
    all_goals go_ret
    all_goals (refine ⟨?_, rfl⟩; congr 2 <;> (try simp) <;> (try omega))
  · have l1 : letLo c = 144 := by unfold letLo; rw [if_neg (by omega), if_pos h]
    have l2 : letHi c = 191 := by unfold letHi; rw [if_neg (by omega), if_neg (by omega)]
    rw [l1, l2] at c2
    subst h
    cases f2 <;> cases f3 <;> cases f4
    all_goals go_enter Tryz.func70, Tryz.ntmps70
    all_goals go_wp2_with (first | (go_at_call 96; have k4 := k3; refine (c4 _).mono ?_; rintro e w' ⟨rfl, rfl⟩) | (go_at_call 96; have k3 := k2; refine (c3 _).mono ?_; rintro e w' ⟨rfl, rfl⟩) | (go_at_call 96; have k2 := trivial; refine (c2 _).mono ?_; rintro e w' ⟨rfl, rfl⟩))
    all_goals go_ret
    all_goals (refine ⟨?_, rfl⟩; congr 2 <;> (try simp) <;> (try omega))
  · have l1 : letLo c = 128 := by unfold letLo; rw [if_neg (by omega), if_neg (by omega)]
    have l2 : letHi c = 191 := by unfold letHi; rw [if_neg (by omega), if_neg (by omega)]
    rw [l1, l2] at c2
    have e224 : ((c : Int) == 224) = false := by simp; omega
    have e237 : ((c : Int) == 237) = false := by simp; omega
    have e240 : ((c : Int) == 240) = false := by simp; omega
    have e244 : ((c : Int) == 244) = false := by simp; omega
    have g1 : ¬ (c : Int) < 224 := by omega
    have g2 : (224 : Int) ≤ (c : Int) := by omega
    have g3 : ¬ (c : Int) < 240 := by omega
    have g4 : (240 : Int) ≤ (c : Int) := by omega
    cases f2 <;> cases f3 <;> cases f4
    all_goals go_enter Tryz.func70, Tryz.ntmps70
    all_goals go_wp2_with (first | (go_at_call 96; have k4 := k3; refine (c4 _).mono ?_; rintro e w' ⟨rfl, rfl⟩) | (go_at_call 96; have k3 := k2; refine (c3 _).mono ?_; rintro e w' ⟨rfl, rfl⟩) | (go_at_call 96; have k2 := trivial; refine (c2 _).mono ?_; rintro e w' ⟨rfl, rfl⟩))
    all_goals go_ret
    all_goals (refine ⟨?_, rfl⟩; congr 2 <;> (try simp) <;> (try omega))
  · have l1 : letLo c = 128 := by unfold letLo; rw [if_neg (by omega), if_neg (by omega)]
    have l2 : letHi c = 143 := by unfold letHi; rw [if_neg (by omega), if_pos h]
    rw [l1, l2] at c2
    subst h
    cases f2 <;> cases f3 <;> cases f4
    all_goals go_enter Tryz.func70, Tryz.ntmps70
    all_goals go_wp2_with (first | (go_at_call 96; have k4 := k3; refine (c4 _).mono ?_; rintro e w' ⟨rfl, rfl⟩) | (go_at_call 96; have k3 := k2; refine (c3 _).mono ?_; rintro e w' ⟨rfl, rfl⟩) | (go_at_call 96; have k2 := trivial; refine (c2 _).mono ?_; rintro e w' ⟨rfl, rfl⟩))
    all_goals go_ret
    all_goals (refine ⟨?_, rfl⟩; congr 2 <;> (try simp) <;> (try omega))
end Go.Proofs.YtmfijfcikecglaaGreatDoor
end
