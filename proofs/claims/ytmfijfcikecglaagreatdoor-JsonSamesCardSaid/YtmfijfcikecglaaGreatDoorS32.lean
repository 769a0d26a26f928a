/- voyagelaw02.JsonSames: true. voyagelaw02.JsonPrints: true. -/
import Derived.Test.YtmfijfcikecglaaGreatDoorS30
import Derived.Test.YtmfijfcikecglaaGreatDoorS31
import Derived.Test.YtmfijfcikecglaaGreatDoorS25
import Derived.Test.YtmfijfcikecglaaGreatDoorS20
section
set_option linter.unusedVariables false
set_option linter.unusedSimpArgs false
namespace Go.Proofs.YtmfijfcikecglaaGreatDoor
open Go Go.RowKit Go.Proofs.YtmfijfcikecglaaGreatDoorW.PrintWords

theorem rsame_is (x y : JV) (w : World) (cs cs' : List Value) (hK : kV.K w x cs) (hK' : kV.K w y cs') (hwt : x.wt ≤ 1073741824) (hin : x.ints) (hwt' : y.wt ≤ 1073741824) (hin' : y.ints) :
    Calls Tryz.prog 27 #[.agg cs.toArray, .agg cs'.toArray] w fun e w' => e = .returned (.bool (decide (x.print = y.print))) ∧ Below w.heap.size w w' := by
  refine (rsame_any x y w cs cs' hK hK' hwt hin hwt' hin').mono ?_
  rintro e w' ⟨b, rfl, hb, hB⟩
  refine ⟨?_, hB⟩
  have : b = decide (x.print = y.print) := by
    cases b
    · exact (decide_eq_false fun h => Bool.false_ne_true (hb.2 (print_inj.1 h))).symm
    · exact (decide_eq_true (print_inj.2 (hb.1 rfl))).symm
  rw [this]

set_option maxRecDepth 100000 in
set_option maxHeartbeats 16000000 in
/-- **voyagelaw02.JsonSames.** -/
theorem jsonSames_any (E : ErrV) (x y : JV) (w : World) (cs cs' : List Value) (hK : kV.K w x cs) (hK' : kV.K w y cs') (hP : PEnv E w) (hx : x.fits) (hy : y.fits) :
    Calls Tryz.prog 5 #[.agg cs.toArray, .agg cs'.toArray] w fun e w' => e = .returned (.bool true) ∧ Below w.heap.size w w' := by
  obtain ⟨A, c, B, d, rfl, _⟩ := VC.of hK
  obtain ⟨A', c', B', d', rfl, _⟩ := VC.of hK'
  obtain ⟨W0, hW0⟩ : ∃ W0, (w.alloc (.cells #[.int .i64 x.kind, .bool x.truth, .bool x.neg, .string x.digits, .int .i64 x.exp, .string x.text, .slice A x.list.length c, .slice B x.fields.length d] 27)).alloc (.cells #[.int .i64 y.kind, .bool y.truth, .bool y.neg, .string y.digits, .int .i64 y.exp, .string y.text, .slice A' y.list.length c', .slice B' y.fields.length d'] 27) = W0 := ⟨_, rfl⟩
  have hB0 : Below w.heap.size w W0 := by rw [← hW0]; exact ((Below.refl _ w).alloc (Nat.le_refl _) _).alloc (by simp) _
  have hk : W0.heap[w.heap.size]? = some (.cells #[.int .i64 x.kind, .bool x.truth, .bool x.neg, .string x.digits, .int .i64 x.exp, .string x.text, .slice A x.list.length c, .slice B x.fields.length d] 27 (0, 0)) := by
    rw [← hW0]; exact (heap_alloc_old _ _ (by simp)).trans (heap_alloc_new w _)
  have hj : W0.heap[w.heap.size + 1]? = some (.cells #[.int .i64 y.kind, .bool y.truth, .bool y.neg, .string y.digits, .int .i64 y.exp, .string y.text, .slice A' y.list.length c', .slice B' y.fields.length d'] 27 (0, 0)) := by
    rw [← hW0]
    have := heap_alloc_new (w.alloc (.cells #[.int .i64 x.kind, .bool x.truth, .bool x.neg, .string x.digits, .int .i64 x.exp, .string x.text, .slice A x.list.length c, .slice B x.fields.length d] 27)) (.cells #[.int .i64 y.kind, .bool y.truth, .bool y.neg, .string y.digits, .int .i64 y.exp, .string y.text, .slice A' y.list.length c', .slice B' y.fields.length d'] 27)
    simpa using this
  have hc0 := cellAll hk
  have hK0 := Aside0.mk (kV.K_below hB0 hK)
  have hK0' := Aside0.mk (kV.K_below hB0 hK')
  have cH := Aside0.mk (heavy_any x W0 _ hK0.out hx)
  unfold JV.cells at *
  replace hP := Aside0.mk hP
  replace hB0 := Aside0.mk hB0
  replace hk := Aside0.mk hk
  replace hj := Aside0.mk hj
  have hxi := fits_ints x hx
  have hyi := fits_ints y hy
  clear hK hK'
  go_enter Tryz.func5, Tryz.ntmps5
  go_wp2_with (first
    | (go_at_call 9; refine cH2.out.mono ?_; clear cH2; rintro e w2 ⟨b2, rfl, hb2y, hb2⟩; have hx2 := Aside0.mk ((hb2.block _ (blk_lt hx1.out)).trans hx1.out); have hy2 := Aside0.mk ((hb2.block _ (blk_lt hy1.out)).trans hy1.out); have hcx2 := cellAll hx2.out; have hcy2 := cellAll hy2.out; have hKx2 := Aside0.mk (kV.K_below hb2 hKx1.out); have hKy2 := Aside0.mk (kV.K_below hb2 hKy1.out); have hL2 := Aside0.mk (hL1.out.trans (hb2.mono hL1.out.size)); clear hcx1 hcy1 hb2)
    | (go_at_call 9; refine cH.out.mono ?_; clear cH; rintro e w1 ⟨b1, rfl, hb1x, hb1⟩; have hL1 := Aside0.mk (hB0.out.trans (hb1.mono hB0.out.size)); have hx1 := Aside0.mk ((hb1.block _ (blk_lt hk.out)).trans hk.out); have hy1 := Aside0.mk ((hb1.block _ (blk_lt hj.out)).trans hj.out); have hcx1 := cellAll hx1.out; have hcy1 := cellAll hy1.out; have hKx1 := Aside0.mk (kV.K_below hb1 hK0.out); have hKy1 := Aside0.mk (kV.K_below hb1 hK0'.out); have cH2 := Aside0.mk (heavy_any y w1 _ hKy1.out hy); clear hc0 hb1))
  all_goals (first | (go_ret; exact ⟨rfl, hL2.out⟩) | skip)
  have hxw := hb1x (by simpa using ‹¬ b1 = true›)
  have hyw := hb2y ‹b2 = false›
  clear hb1x hb2y
  have hwLx : x.wt ≤ 4294967296 := by omega
  have hwLy : y.wt ≤ 4294967296 := by omega
  have cS := fun (W : World) (cs cs' : List Value) (hK : kV.K W x cs) (hK' : kV.K W y cs') (hF : Facts W) => same_any x y W cs cs' hK hK' hF (by omega) hxi (by omega) hyi
  have cS2 := fun (W : World) (cs cs' : List Value) (hK : kV.K W y cs) (hK' : kV.K W x cs') (hF : Facts W) => same_any y x W cs cs' hK hK' hF (by omega) hyi (by omega) hxi
  have cS3 := fun (W : World) (cs cs' : List Value) (hK : kV.K W x cs) (hK' : kV.K W x cs') (hF : Facts W) => same_any x x W cs cs' hK hK' hF (by omega) hxi (by omega) hxi
  have cQ := fun (W : World) (cs cs' : List Value) (hK : kV.K W x cs) (hK' : kV.K W y cs') => rsame_is x y W cs cs' hK hK' (by omega) hxi (by omega) hyi
  rw [show decide (y.print = x.print) = decide (x.print = y.print) from decide_eq_decide.2 ⟨Eq.symm, Eq.symm⟩] at cS2
  rw [show decide (x.print = x.print) = true from decide_eq_true rfl] at cS3
  obtain ⟨sm, hsm⟩ : ∃ sm : Bool, decide (x.print = y.print) = sm := ⟨_, rfl⟩
  rw [hsm] at cS cS2 cQ
  clear hsm
  go_wp2_with (first
    | (go_at_call 11; refine (lend_any y _ _ _ _ _ hKy4.out hwLy).mono ?_; rintro e w5 ⟨ub, Ua, Ub, Ua2, Ub2, UL, UF, uc, ud, uc2, ud2, ulc, ufc, uls, ufs, rfl, hT, hb5⟩; have hU5 := Aside0.mk hT; have hcU5 := cellAll hT.blk; clear hT; have hx5 := Aside0.mk ((hb5.block _ (blk_lt hx4.out)).trans hx4.out); have hy5 := Aside0.mk ((hb5.block _ (blk_lt hy4.out)).trans hy4.out); have hcx5 := cellAll hx5.out; have hKx5 := Aside0.mk (kV.K_below hb5 hKx4.out); have hcy5 := cellAll hy5.out; have hKy5 := Aside0.mk (kV.K_below hb5 hKy4.out); have hL5 := Aside0.mk (hL4.out.trans (hb5.mono hL4.out.size)); clear hcx4 hcy4; have hT5 := Aside0.mk (hT4.out.below hb5); have hcT5 := cellAll hT5.out.blk; clear hcT4; clear hb5)
    | (go_at_call 11; refine (lend_any x _ _ _ _ _ hKx3.out hwLx).mono ?_; rintro e w4 ⟨tb, Ta, Tb, Ta2, Tb2, TL, TF, tc, td, tc2, td2, tlc, tfc, tls, tfs, rfl, hT, hb4⟩; have hT4 := Aside0.mk hT; have hcT4 := cellAll hT.blk; clear hT; have hx4 := Aside0.mk ((hb4.block _ (blk_lt hx3.out)).trans hx3.out); have hy4 := Aside0.mk ((hb4.block _ (blk_lt hy3.out)).trans hy3.out); have hcx4 := cellAll hx4.out; have hKx4 := Aside0.mk (kV.K_below hb4 hKx3.out); have hcy4 := cellAll hy4.out; have hKy4 := Aside0.mk (kV.K_below hb4 hKy3.out); have hL4 := Aside0.mk (hL3.out.trans (hb4.mono hL3.out.size)); clear hcx3 hcy3; clear hb4)
    | (go_at_call 10; refine (awake_any E _ (hP.out.below hL2.out)).mono ?_; rintro e w3 ⟨rfl, hb3⟩; have hx3 := Aside0.mk ((hb3.block _ (blk_lt hx2.out)).trans hx2.out); have hy3 := Aside0.mk ((hb3.block _ (blk_lt hy2.out)).trans hy2.out); have hcx3 := cellAll hx3.out; have hKx3 := Aside0.mk (kV.K_below hb3 hKx2.out); have hcy3 := cellAll hy3.out; have hKy3 := Aside0.mk (kV.K_below hb3 hKy2.out); have hL3 := Aside0.mk (hL2.out.trans (hb3.mono hL2.out.size)); clear hcx2 hcy2; clear hb3))
  all_goals (have hSof : ∀ W', Below w5.heap.size w5 W' → W'.cell? ⟨tb, 0, none⟩ = some (.int .i64 x.kind) ∧ W'.cell? ⟨tb, 1, none⟩ = some (.bool x.truth) ∧ W'.cell? ⟨tb, 2, none⟩ = some (.bool x.neg) ∧ W'.cell? ⟨tb, 3, none⟩ = some (.string x.digits) ∧ W'.cell? ⟨tb, 4, none⟩ = some (.int .i64 x.exp) ∧ W'.cell? ⟨tb, 5, none⟩ = some (.string x.text) ∧ W'.cell? ⟨tb, 6, none⟩ = some (.slice Ta x.list.length tc) ∧ W'.cell? ⟨tb, 7, none⟩ = some (.slice Tb x.fields.length td) ∧ W'.cell? ⟨ub, 0, none⟩ = some (.int .i64 y.kind) ∧ W'.cell? ⟨ub, 1, none⟩ = some (.bool y.truth) ∧ W'.cell? ⟨ub, 2, none⟩ = some (.bool y.neg) ∧ W'.cell? ⟨ub, 3, none⟩ = some (.string y.digits) ∧ W'.cell? ⟨ub, 4, none⟩ = some (.int .i64 y.exp) ∧ W'.cell? ⟨ub, 5, none⟩ = some (.string y.text) ∧ W'.cell? ⟨ub, 6, none⟩ = some (.slice Ua y.list.length uc) ∧ W'.cell? ⟨ub, 7, none⟩ = some (.slice Ub y.fields.length ud) := fun W' hb => (by have kT := cellAll ((hT5.out.below hb).blk); have kU := cellAll ((hU5.out.below hb).blk); exact ⟨kT 0, kT 1, kT 2, kT 3, kT 4, kT 5, kT 6, kT 7, kU 0, kU 1, kU 2, kU 3, kU 4, kU 5, kU 6, kU 7⟩))
  all_goals (have hS0 := hSof w5 (Below.refl _ _))
  all_goals (have hbd := (Below.refl w5.heap.size w5).drew)
  all_goals (have hS1 := hSof _ hbd)
  all_goals (clear hcT5 hcU5)
  all_goals (go_region_held3 (fun W' => W'.cell? ⟨tb, 0, none⟩ = some (.int .i64 x.kind) ∧ W'.cell? ⟨tb, 1, none⟩ = some (.bool x.truth) ∧ W'.cell? ⟨tb, 2, none⟩ = some (.bool x.neg) ∧ W'.cell? ⟨tb, 3, none⟩ = some (.string x.digits) ∧ W'.cell? ⟨tb, 4, none⟩ = some (.int .i64 x.exp) ∧ W'.cell? ⟨tb, 5, none⟩ = some (.string x.text) ∧ W'.cell? ⟨tb, 6, none⟩ = some (.slice Ta x.list.length tc) ∧ W'.cell? ⟨tb, 7, none⟩ = some (.slice Tb x.fields.length td) ∧ W'.cell? ⟨ub, 0, none⟩ = some (.int .i64 y.kind) ∧ W'.cell? ⟨ub, 1, none⟩ = some (.bool y.truth) ∧ W'.cell? ⟨ub, 2, none⟩ = some (.bool y.neg) ∧ W'.cell? ⟨ub, 3, none⟩ = some (.string y.digits) ∧ W'.cell? ⟨ub, 4, none⟩ = some (.int .i64 y.exp) ∧ W'.cell? ⟨ub, 5, none⟩ = some (.string y.text) ∧ W'.cell? ⟨ub, 6, none⟩ = some (.slice Ua y.list.length uc) ∧ W'.cell? ⟨ub, 7, none⟩ = some (.slice Ub y.fields.length ud)) (first | exact hS0 | exact hS1 | exact hS2 | (simp [*]; done))
    (first | (go_at_call 26; refine (cS _ _ _ (hT5.out.below hbd).kv (hU5.out.below hbd).kv ((hP.out.below hL5.out).facts.below hbd)).mono ?_; rintro e w6 ⟨rfl, hb6'⟩; have hb6 := hbd.trans hb6'; have hS2 := hSof _ hb6)))
  all_goals (clear hS0 hS1 hS2 hSof hb6' hbd)
  all_goals (have hcT5 : True := trivial; have hcU5 : True := trivial; have hx6 := Aside0.mk ((hb6.block _ (blk_lt hx5.out)).trans hx5.out); have hy6 := Aside0.mk ((hb6.block _ (blk_lt hy5.out)).trans hy5.out); have hcx6 := cellAll hx6.out; have hKx6 := Aside0.mk (kV.K_below hb6 hKx5.out); have hcy6 := cellAll hy6.out; have hKy6 := Aside0.mk (kV.K_below hb6 hKy5.out); have hL6 := Aside0.mk (hL5.out.trans (hb6.mono hL5.out.size)); clear hcx5 hcy5; have hT6 := Aside0.mk (hT5.out.below hb6); have hcT6 := cellAll hT6.out.blk; clear hcT5; have hU6 := Aside0.mk (hU5.out.below hb6); have hcU6 := cellAll hU6.out.blk; clear hcU5; clear hb6)
  all_goals (go_wp2_with fail)
  all_goals (have hSof : ∀ W', Below w6.heap.size w6 W' → W'.cell? ⟨ub, 0, none⟩ = some (.int .i64 y.kind) ∧ W'.cell? ⟨ub, 1, none⟩ = some (.bool y.truth) ∧ W'.cell? ⟨ub, 2, none⟩ = some (.bool y.neg) ∧ W'.cell? ⟨ub, 3, none⟩ = some (.string y.digits) ∧ W'.cell? ⟨ub, 4, none⟩ = some (.int .i64 y.exp) ∧ W'.cell? ⟨ub, 5, none⟩ = some (.string y.text) ∧ W'.cell? ⟨ub, 6, none⟩ = some (.slice Ua y.list.length uc) ∧ W'.cell? ⟨ub, 7, none⟩ = some (.slice Ub y.fields.length ud) ∧ W'.cell? ⟨tb, 0, none⟩ = some (.int .i64 x.kind) ∧ W'.cell? ⟨tb, 1, none⟩ = some (.bool x.truth) ∧ W'.cell? ⟨tb, 2, none⟩ = some (.bool x.neg) ∧ W'.cell? ⟨tb, 3, none⟩ = some (.string x.digits) ∧ W'.cell? ⟨tb, 4, none⟩ = some (.int .i64 x.exp) ∧ W'.cell? ⟨tb, 5, none⟩ = some (.string x.text) ∧ W'.cell? ⟨tb, 6, none⟩ = some (.slice Ta x.list.length tc) ∧ W'.cell? ⟨tb, 7, none⟩ = some (.slice Tb x.fields.length td) := fun W' hb => (by have kU := cellAll ((hU6.out.below hb).blk); have kT := cellAll ((hT6.out.below hb).blk); exact ⟨kU 0, kU 1, kU 2, kU 3, kU 4, kU 5, kU 6, kU 7, kT 0, kT 1, kT 2, kT 3, kT 4, kT 5, kT 6, kT 7⟩))
  all_goals (have hS0 := hSof w6 (Below.refl _ _))
  all_goals (have hbd := (Below.refl w6.heap.size w6).drew)
  all_goals (have hS1 := hSof _ hbd)
  all_goals (clear hcT6 hcU6)
  all_goals (go_region_held3 (fun W' => W'.cell? ⟨ub, 0, none⟩ = some (.int .i64 y.kind) ∧ W'.cell? ⟨ub, 1, none⟩ = some (.bool y.truth) ∧ W'.cell? ⟨ub, 2, none⟩ = some (.bool y.neg) ∧ W'.cell? ⟨ub, 3, none⟩ = some (.string y.digits) ∧ W'.cell? ⟨ub, 4, none⟩ = some (.int .i64 y.exp) ∧ W'.cell? ⟨ub, 5, none⟩ = some (.string y.text) ∧ W'.cell? ⟨ub, 6, none⟩ = some (.slice Ua y.list.length uc) ∧ W'.cell? ⟨ub, 7, none⟩ = some (.slice Ub y.fields.length ud) ∧ W'.cell? ⟨tb, 0, none⟩ = some (.int .i64 x.kind) ∧ W'.cell? ⟨tb, 1, none⟩ = some (.bool x.truth) ∧ W'.cell? ⟨tb, 2, none⟩ = some (.bool x.neg) ∧ W'.cell? ⟨tb, 3, none⟩ = some (.string x.digits) ∧ W'.cell? ⟨tb, 4, none⟩ = some (.int .i64 x.exp) ∧ W'.cell? ⟨tb, 5, none⟩ = some (.string x.text) ∧ W'.cell? ⟨tb, 6, none⟩ = some (.slice Ta x.list.length tc) ∧ W'.cell? ⟨tb, 7, none⟩ = some (.slice Tb x.fields.length td)) (first | exact hS0 | exact hS1 | exact hS2 | (simp [*]; done))
    (first | (go_at_call 26; refine (cS2 _ _ _ (hU6.out.below hbd).kv (hT6.out.below hbd).kv ((hP.out.below hL6.out).facts.below hbd)).mono ?_; rintro e w7 ⟨rfl, hb7'⟩; have hb7 := hbd.trans hb7'; have hS2 := hSof _ hb7)))
  all_goals (clear hS0 hS1 hS2 hSof hb7' hbd)
  all_goals (have hcT6 : True := trivial; have hcU6 : True := trivial; have hx7 := Aside0.mk ((hb7.block _ (blk_lt hx6.out)).trans hx6.out); have hy7 := Aside0.mk ((hb7.block _ (blk_lt hy6.out)).trans hy6.out); have hcx7 := cellAll hx7.out; have hKx7 := Aside0.mk (kV.K_below hb7 hKx6.out); have hcy7 := cellAll hy7.out; have hKy7 := Aside0.mk (kV.K_below hb7 hKy6.out); have hL7 := Aside0.mk (hL6.out.trans (hb7.mono hL6.out.size)); clear hcx6 hcy6; have hT7 := Aside0.mk (hT6.out.below hb7); have hcT7 := cellAll hT7.out.blk; clear hcT6; have hU7 := Aside0.mk (hU6.out.below hb7); have hcU7 := cellAll hU7.out.blk; clear hcU6; clear hb7)
  all_goals (go_wp2_with fail)
  all_goals (have hSof : ∀ W', Below w7.heap.size w7 W' → W'.cell? ⟨tb, 0, none⟩ = some (.int .i64 x.kind) ∧ W'.cell? ⟨tb, 1, none⟩ = some (.bool x.truth) ∧ W'.cell? ⟨tb, 2, none⟩ = some (.bool x.neg) ∧ W'.cell? ⟨tb, 3, none⟩ = some (.string x.digits) ∧ W'.cell? ⟨tb, 4, none⟩ = some (.int .i64 x.exp) ∧ W'.cell? ⟨tb, 5, none⟩ = some (.string x.text) ∧ W'.cell? ⟨tb, 6, none⟩ = some (.slice Ta x.list.length tc) ∧ W'.cell? ⟨tb, 7, none⟩ = some (.slice Tb x.fields.length td) := fun W' hb => (by have kT := cellAll ((hT7.out.below hb).blk); exact ⟨kT 0, kT 1, kT 2, kT 3, kT 4, kT 5, kT 6, kT 7⟩))
  all_goals (have hS0 := hSof w7 (Below.refl _ _))
  all_goals (have hbd := (Below.refl w7.heap.size w7).drew)
  all_goals (have hS1 := hSof _ hbd)
  all_goals (clear hcT7 hcU7)
  all_goals (go_region_held3 (fun W' => W'.cell? ⟨tb, 0, none⟩ = some (.int .i64 x.kind) ∧ W'.cell? ⟨tb, 1, none⟩ = some (.bool x.truth) ∧ W'.cell? ⟨tb, 2, none⟩ = some (.bool x.neg) ∧ W'.cell? ⟨tb, 3, none⟩ = some (.string x.digits) ∧ W'.cell? ⟨tb, 4, none⟩ = some (.int .i64 x.exp) ∧ W'.cell? ⟨tb, 5, none⟩ = some (.string x.text) ∧ W'.cell? ⟨tb, 6, none⟩ = some (.slice Ta x.list.length tc) ∧ W'.cell? ⟨tb, 7, none⟩ = some (.slice Tb x.fields.length td)) (first | exact hS0 | exact hS1 | exact hS2 | (simp [*]; done))
    (first | (go_at_call 26; refine (cS3 _ _ _ (hT7.out.below hbd).kv (hT7.out.below hbd).kv ((hP.out.below hL7.out).facts.below hbd)).mono ?_; rintro e w8 ⟨rfl, hb8'⟩; have hb8 := hbd.trans hb8'; have hS2 := hSof _ hb8)))
  all_goals (clear hS0 hS1 hS2 hSof hb8' hbd)
  all_goals (have hcT7 : True := trivial; have hcU7 : True := trivial; have hx8 := Aside0.mk ((hb8.block _ (blk_lt hx7.out)).trans hx7.out); have hy8 := Aside0.mk ((hb8.block _ (blk_lt hy7.out)).trans hy7.out); have hcx8 := cellAll hx8.out; have hKx8 := Aside0.mk (kV.K_below hb8 hKx7.out); have hcy8 := cellAll hy8.out; have hKy8 := Aside0.mk (kV.K_below hb8 hKy7.out); have hL8 := Aside0.mk (hL7.out.trans (hb8.mono hL7.out.size)); clear hcx7 hcy7; have hT8 := Aside0.mk (hT7.out.below hb8); have hcT8 := cellAll hT8.out.blk; clear hcT7; have hU8 := Aside0.mk (hU7.out.below hb8); have hcU8 := cellAll hU8.out.blk; clear hcU7; clear hb8)
  all_goals (go_wp2_with (first
    | (go_at_call 27; refine (cQ _ _ _ hKx10.out hKy10.out).mono ?_; rintro e w11 ⟨rfl, hb11⟩; have hx11 := Aside0.mk ((hb11.block _ (blk_lt hx10.out)).trans hx10.out); have hy11 := Aside0.mk ((hb11.block _ (blk_lt hy10.out)).trans hy10.out); have hcx11 := cellAll hx11.out; have hKx11 := Aside0.mk (kV.K_below hb11 hKx10.out); have hcy11 := cellAll hy11.out; have hKy11 := Aside0.mk (kV.K_below hb11 hKy10.out); have hL11 := Aside0.mk (hL10.out.trans (hb11.mono hL10.out.size)); clear hcx10 hcy10; have hT11 := Aside0.mk (hT10.out.below hb11); have hcT11 := cellAll hT11.out.blk; clear hcT10; have hU11 := Aside0.mk (hU10.out.below hb11); have hcU11 := cellAll hU11.out.blk; clear hcU10; clear hb11)
    | (go_at_call 13; refine (kept_any _ _ y _ _ _ _ _ _ _ _ _ _ _ _ _ _ hU9.out).mono ?_; rintro e w10 ⟨rfl, hb10⟩; have hx10 := Aside0.mk ((hb10.block _ (blk_lt hx9.out)).trans hx9.out); have hy10 := Aside0.mk ((hb10.block _ (blk_lt hy9.out)).trans hy9.out); have hcx10 := cellAll hx10.out; have hKx10 := Aside0.mk (kV.K_below hb10 hKx9.out); have hcy10 := cellAll hy10.out; have hKy10 := Aside0.mk (kV.K_below hb10 hKy9.out); have hL10 := Aside0.mk (hL9.out.trans (hb10.mono hL9.out.size)); clear hcx9 hcy9; have hT10 := Aside0.mk (hT9.out.below hb10); have hcT10 := cellAll hT10.out.blk; clear hcT9; have hU10 := Aside0.mk (hU9.out.below hb10); have hcU10 := cellAll hU10.out.blk; clear hcU9; clear hb10)
    | (go_at_call 13; refine (kept_any _ _ x _ _ _ _ _ _ _ _ _ _ _ _ _ _ hT8.out).mono ?_; rintro e w9 ⟨rfl, hb9⟩; have hx9 := Aside0.mk ((hb9.block _ (blk_lt hx8.out)).trans hx8.out); have hy9 := Aside0.mk ((hb9.block _ (blk_lt hy8.out)).trans hy8.out); have hcx9 := cellAll hx9.out; have hKx9 := Aside0.mk (kV.K_below hb9 hKx8.out); have hcy9 := cellAll hy9.out; have hKy9 := Aside0.mk (kV.K_below hb9 hKy8.out); have hL9 := Aside0.mk (hL8.out.trans (hb9.mono hL8.out.size)); clear hcx8 hcy8; have hT9 := Aside0.mk (hT8.out.below hb9); have hcT9 := cellAll hT9.out.blk; clear hcT8; have hU9 := Aside0.mk (hU8.out.below hb9); have hcU9 := cellAll hU9.out.blk; clear hcU8; clear hb9)))
  all_goals go_ret
  all_goals exact ⟨by simp, hL11.out⟩
end Go.Proofs.YtmfijfcikecglaaGreatDoor
end
section
set_option linter.unusedVariables false
set_option linter.unusedSimpArgs false
namespace Go.Proofs.YtmfijfcikecglaaGreatDoor
open Go Go.RowKit Go.Proofs.YtmfijfcikecglaaGreatDoorW.PrintWords

set_option maxRecDepth 100000 in
set_option maxHeartbeats 16000000 in
/-- **voyagelaw02.JsonPrints.** -/
theorem jsonPrints_any (E : ErrV) (x : JV) (w : World) (cs : List Value) (hK : kV.K w x cs) (hP : PEnv E w) (hx : x.fits) :
    Calls Tryz.prog 3 #[.agg cs.toArray] w fun e w' => e = .returned (.bool true) ∧ Below w.heap.size w w' := by
  obtain ⟨A, c, B, d, rfl, _⟩ := VC.of hK
  obtain ⟨W0, hW0⟩ : ∃ W0, w.alloc (.cells #[.int .i64 x.kind, .bool x.truth, .bool x.neg, .string x.digits, .int .i64 x.exp, .string x.text, .slice A x.list.length c, .slice B x.fields.length d] 27) = W0 := ⟨_, rfl⟩
  have hB0 : Below w.heap.size w W0 := by rw [← hW0]; exact (Below.refl _ w).alloc (Nat.le_refl _) _
  have hk : W0.heap[w.heap.size]? = some (.cells #[.int .i64 x.kind, .bool x.truth, .bool x.neg, .string x.digits, .int .i64 x.exp, .string x.text, .slice A x.list.length c, .slice B x.fields.length d] 27 (0, 0)) := by rw [← hW0]; exact heap_alloc_new w _
  have hc0' := cellAll hk
  have hK0 := Aside0.mk (kV.K_below hB0 hK)
  have cH := Aside0.mk (heavy_any x W0 _ hK0.out hx)
  unfold JV.cells at *
  replace hP := Aside0.mk hP
  replace hB0 := Aside0.mk hB0
  replace hk := Aside0.mk hk
  have hxi := fits_ints x hx
  clear hK hx
  go_enter Tryz.func3, Tryz.ntmps3
  go_wp2_with (go_at_call 9; refine cH.out.mono ?_; clear cH; rintro e w1 ⟨b1, rfl, hb1x, hb1⟩; have hL1 := Aside0.mk (hB0.out.trans (hb1.mono hB0.out.size)); have hx1 := Aside0.mk ((hb1.block _ (blk_lt hk.out)).trans hk.out); have hcx1 := cellAll hx1.out; have hKx1 := Aside0.mk (kV.K_below hb1 hK0.out); clear hc0' hb1)
  · go_ret; exact ⟨rfl, hL1.out⟩
  have hxw := hb1x ‹b1 = false›
  clear hb1x
  have cR := fun (W : World) (cs : List Value) (hK : kV.K W x cs) (hF : Facts W) => print_any x W cs hK hF (by omega) hxi
  have cQ := fun (W : World) (cs : List Value) (hK : kV.K W x cs) (hF : Facts W) => rprint_any x W cs hK hF (by omega) hxi
  have hwL : x.wt ≤ 4294967296 := by omega
  have hpx : x.print = x.norm.put := rfl
  rw [hpx] at cR
  obtain ⟨s, hs⟩ : ∃ s : ByteArray, (⟨x.norm.put.toArray⟩ : ByteArray) = s := ⟨_, rfl⟩
  rw [hs] at cR cQ
  clear hpx hs
  go_wp2_with (first
    | (go_at_call 14; refine (cQ _ _ hKx6.out (hP.out.below hL6.out).facts).mono ?_; rintro e w7 ⟨rfl, hb7⟩; have hx7 := Aside0.mk ((hb7.block _ (blk_lt hx6.out)).trans hx6.out); have hcx7 := cellAll hx7.out; have hKx7 := Aside0.mk (kV.K_below hb7 hKx6.out); have hL7 := Aside0.mk (hL6.out.trans (hb7.mono hL6.out.size)); clear hcx6; have hT7 := Aside0.mk (hT6.out.below hb7); have hct7 := cellAll hT7.out.blk; clear hct6; clear hb7)
    | (go_at_call 13; refine (kept_any _ _ x _ _ _ _ _ _ _ _ _ _ _ _ _ _ hT5.out).mono ?_; rintro e w6 ⟨rfl, hb6⟩; have hx6 := Aside0.mk ((hb6.block _ (blk_lt hx5.out)).trans hx5.out); have hcx6 := cellAll hx6.out; have hKx6 := Aside0.mk (kV.K_below hb6 hKx5.out); have hL6 := Aside0.mk (hL5.out.trans (hb6.mono hL5.out.size)); clear hcx5; have hT6 := Aside0.mk (hT5.out.below hb6); have hct6 := cellAll hT6.out.blk; clear hct5; clear hb6)
    | (go_at_call 12; refine (cR _ _ hT4.out.kv (hP.out.below hL4.out).facts).mono ?_; rintro e w5 ⟨rfl, hb5⟩; have hx5 := Aside0.mk ((hb5.block _ (blk_lt hx4.out)).trans hx4.out); have hcx5 := cellAll hx5.out; have hKx5 := Aside0.mk (kV.K_below hb5 hKx4.out); have hL5 := Aside0.mk (hL4.out.trans (hb5.mono hL4.out.size)); clear hcx4; have hT5 := Aside0.mk (hT4.out.below hb5); have hct5 := cellAll hT5.out.blk; clear hct4; clear hb5)
    | (go_at_call 12; refine (cR _ _ hT3.out.kv (hP.out.below hL3.out).facts).mono ?_; rintro e w4 ⟨rfl, hb4⟩; have hx4 := Aside0.mk ((hb4.block _ (blk_lt hx3.out)).trans hx3.out); have hcx4 := cellAll hx4.out; have hKx4 := Aside0.mk (kV.K_below hb4 hKx3.out); have hL4 := Aside0.mk (hL3.out.trans (hb4.mono hL3.out.size)); clear hcx3; have hT4 := Aside0.mk (hT3.out.below hb4); have hct4 := cellAll hT4.out.blk; clear hct3; clear hb4)
    | (go_at_call 11; go_loud (refine (lend_any x _ _ _ _ _ hKx2.out hwL).mono ?_; rintro e w3 ⟨tb, A', B', A2, B2, LA, FA, c', d', c2, d2, lc, fc, ls, fs, rfl, hT, hb3⟩; have hT3 := Aside0.mk hT; have hct3 := cellAll hT.blk; clear hT; have hx3 := Aside0.mk ((hb3.block _ (blk_lt hx2.out)).trans hx2.out); have hcx3 := cellAll hx3.out; have hKx3 := Aside0.mk (kV.K_below hb3 hKx2.out); have hL3 := Aside0.mk (hL2.out.trans (hb3.mono hL2.out.size)); clear hcx2; clear hb3))
    | (go_at_call 10; refine (awake_any E _ (hP.out.below hL1.out)).mono ?_; rintro e w2 ⟨rfl, hb2⟩; have hx2 := Aside0.mk ((hb2.block _ (blk_lt hx1.out)).trans hx1.out); have hcx2 := cellAll hx2.out; have hKx2 := Aside0.mk (kV.K_below hb2 hKx1.out); have hL2 := Aside0.mk (hL1.out.trans (hb2.mono hL1.out.size)); clear hcx1; clear hb2))
  all_goals go_ret
  all_goals exact ⟨rfl, hL7.out⟩
end Go.Proofs.YtmfijfcikecglaaGreatDoor
end
