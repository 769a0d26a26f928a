/- voyagelaw02.JsonBack: true. -/
import Derived.Test.YtmfijfcikecglaaGreatDoorH30
import Derived.Test.YtmfijfcikecglaaGreatDoorH27
import Derived.Test.YtmfijfcikecglaaGreatDoorH20
section
set_option linter.unusedVariables false
set_option linter.unusedSimpArgs false
namespace Go.Proofs.YtmfijfcikecglaaGreatDoor
open Go Go.RowKit Go.Proofs.YtmfijfcikecglaaGreatDoorW.PrintWords

theorem norm_to (x : JV) (w : World) (cs : List Value) (hK : kV.K w x cs) (hF : Facts w) (hwt : x.wt ≤ 4294967296) (hin : x.ints) : Calls Tryz.prog 15 #[.agg cs.toArray] w fun e w' => ∃ A c B d, e = .returned (.agg #[.int .i64 x.norm.kind, .bool x.norm.truth, .bool x.norm.neg, .string x.norm.digits, .int .i64 x.norm.exp, .string x.norm.text, .slice A x.norm.list.length c, .slice B x.norm.fields.length d]) ∧ kV.K w' x.norm [.int .i64 x.norm.kind, .bool x.norm.truth, .bool x.norm.neg, .string x.norm.digits, .int .i64 x.norm.exp, .string x.norm.text, .slice A x.norm.list.length c, .slice B x.norm.fields.length d] ∧ Below w.heap.size w w' := by
  have h := norm_any x w cs hK hF hwt hin
  generalize x.norm = y at *
  refine h.mono ?_
  rintro e w' ⟨cs', rfl, hM, hb⟩
  obtain ⟨l, f, rfl, hl, hf⟩ := kV_openM hM
  obtain ⟨A, c, rfl⟩ := Kd.R_slice hl
  obtain ⟨B, d, rfl⟩ := Kd.R_slice hf
  exact ⟨A, c, B, d, rfl, kV.K_of_M hM, hb⟩

set_option maxRecDepth 100000 in
set_option maxHeartbeats 16000000 in
theorem back_sound (E : ErrV) (x : JV) (w : World) (cs : List Value) (hK : kV.K w x cs) (hP : PEnv E w) (hx : x.fits) (hso : x.norm.deep ≤ 64 ∧ x.norm.put.length ≤ 1048576) :
    Calls Tryz.prog 6 #[.agg cs.toArray] w fun e w' => e = .returned (.bool true) ∧ Below w.heap.size w w' := by
  obtain ⟨A, c, B, d, rfl, _⟩ := VC.of hK
  obtain ⟨W0, hW0⟩ : ∃ W0, w.alloc (.cells #[.int .i64 x.kind, .bool x.truth, .bool x.neg, .string x.digits, .int .i64 x.exp, .string x.text, .slice A x.list.length c, .slice B x.fields.length d] 27) = W0 := ⟨_, rfl⟩
  have hB0 : Below w.heap.size w W0 := by rw [← hW0]; exact (Below.refl _ w).alloc (Nat.le_refl _) _
  have hk : W0.heap[w.heap.size]? = some (.cells #[.int .i64 x.kind, .bool x.truth, .bool x.neg, .string x.digits, .int .i64 x.exp, .string x.text, .slice A x.list.length c, .slice B x.fields.length d] 27 (0, 0)) := by rw [← hW0]; exact heap_alloc_new w _
  have hc0' := cellAll hk
  have hK0 := Aside0.mk (kV.K_below hB0 hK)
  have cH := Aside0.mk (heavy_any x W0 _ hK0.out hx)
  unfold JV.cells at *
  replace hP := Aside0.mk hP
  replace hB0 := Aside0.mk hB0
  replace hk := Aside0.mk hk
  replace hso := Aside0.mk hso
  have hxi := fits_ints x hx
  have hNy := norm_isN x
  have hny := norm_norm x
  have hiy := norm_ints x
  have hwy := norm_wt x
  clear hK hx
  go_enter Tryz.func6, Tryz.ntmps6
  go_wp2_with (go_at_call 9; refine cH.out.mono ?_; clear cH; rintro e w1 ⟨b1, rfl, hb1x, hb1⟩; have hL1 := Aside0.mk (hB0.out.trans (hb1.mono hB0.out.size)); have hx1 := Aside0.mk ((hb1.block _ (blk_lt hk.out)).trans hk.out); have hcx1 := cellAll hx1.out; have hKx1 := Aside0.mk (kV.K_below hb1 hK0.out); clear hc0' hb1)
  · go_ret; exact ⟨rfl, hL1.out⟩
  have hxw := hb1x ‹b1 = false›
  clear hb1x
  have cN := fun (W : World) (cs : List Value) (hK : kV.K W x cs) (hF : Facts W) => norm_to x W cs hK hF (by omega) hxi
  have cR := fun (W : World) (cs : List Value) (hK : kV.K W x cs) (hF : Facts W) => print_any x W cs hK hF (by omega) hxi
  have cNy := fun (W : World) (cs : List Value) (hK : kV.K W x.norm cs) (hF : Facts W) => norm_same x.norm hny W cs hK hF (by omega) hiy
  have cRy := fun (W : World) (cs : List Value) (hK : kV.K W x.norm cs) (hF : Facts W) => print_same x.norm hny W cs hK hF (by omega) hiy
  have cS := fun (W : World) (cs cs' : List Value) (hK : kV.K W x cs) (hK' : kV.K W x.norm cs') (hF : Facts W) => same_any x x.norm W cs cs' hK hK' hF (by omega) hxi (by omega) hiy
  have cO := fun (W : World) (cs : List Value) (hK : kV.K W x cs) (hF : Facts W) => sound_any x W cs hK hF (by omega) hxi
  have hpe : x.print = x.norm.print := by unfold JV.print; rw [hny]
  have hpx : x.print = x.norm.put := rfl
  rw [decide_eq_true hpe] at cS
  rw [hpx] at cR
  obtain ⟨hd, hpl⟩ := hso.out
  rw [decide_eq_true hd, decide_eq_true hpl] at cO
  obtain ⟨jt, hjt⟩ := parse_told x.norm hNy hd
  have cP := fun (W : World) (hP : PEnv E W) => parse_ok E ⟨x.norm.put.toArray⟩ W (by rw [size_mk]; exact hpl) hP x.norm jt hjt
  have cDx := fun (W : World) (cs : List Value) (hK : kV.K W x cs) (hF : Facts W) => depth_any x W cs hK hF (by omega) hxi
  have cDy := fun (W : World) (cs : List Value) (hK : kV.K W x.norm cs) (hF : Facts W) => depth_any x.norm W cs hK hF (by omega) hiy
  rw [hny] at cDy
  clear hjt hd hpl
  obtain ⟨s, hs⟩ : ∃ s : ByteArray, (⟨x.norm.put.toArray⟩ : ByteArray) = s := ⟨_, rfl⟩
  rw [hs] at cR cRy cP
  clear hpe hpx hs
  generalize x.norm = y at *
  go_wp2_with (first
    | (go_at_call 12; refine (cR _ _ hKx4.out (hP.out.below hL4.out).facts).mono ?_; rintro e w5 ⟨rfl, hb5⟩; have hx5 := Aside0.mk ((hb5.block _ (blk_lt hx4.out)).trans hx4.out); have hcx5 := cellAll hx5.out; have hKx5 := Aside0.mk (kV.K_below hb5 hKx4.out); have hy5 := Aside0.mk ((hb5.block _ (blk_lt hy4.out)).trans hy4.out); have hcy5 := cellAll hy5.out; have hKy5 := Aside0.mk (kV.K_below hb5 hKy4.out); have hL5 := Aside0.mk (hL4.out.trans (hb5.mono hL4.out.size)); clear hcx4 hcy4; clear hb5)
    | (go_at_call 15; refine (cN _ _ hKx2.out (hP.out.below hL2.out).facts).mono ?_; rintro e w3 ⟨A3, c3, B3, d3, rfl, hK3, hb3⟩; have hB4 := (Below.refl w3.heap.size w3).alloc (Nat.le_refl _) (.cells #[.int .i64 y.kind, .bool y.truth, .bool y.neg, .string y.digits, .int .i64 y.exp, .string y.text, .slice A3 y.list.length c3, .slice B3 y.fields.length d3] 27); have hy4 := Aside0.mk (heap_alloc_new w3 (.cells #[.int .i64 y.kind, .bool y.truth, .bool y.neg, .string y.digits, .int .i64 y.exp, .string y.text, .slice A3 y.list.length c3, .slice B3 y.fields.length d3] 27)); have hcy4 := cellAll hy4.out; have hKy4 := Aside0.mk (kV.K_below hB4 hK3); have hb4 := hb3.trans (hB4.mono hb3.size); have hx4 := Aside0.mk ((hb4.block _ (blk_lt hx2.out)).trans hx2.out); have hcx4 := cellAll hx4.out; have hKx4 := Aside0.mk (kV.K_below hb4 hKx2.out); have hL4 := Aside0.mk (hL2.out.trans (hb4.mono hL2.out.size)); clear hcx2; clear hb4; clear hb3 hB4 hK3)
    | (go_at_call 10; refine (awake_any E _ (hP.out.below hL1.out)).mono ?_; rintro e w2 ⟨rfl, hb2⟩; have hx2 := Aside0.mk ((hb2.block _ (blk_lt hx1.out)).trans hx1.out); have hcx2 := cellAll hx2.out; have hKx2 := Aside0.mk (kV.K_below hb2 hKx1.out); have hL2 := Aside0.mk (hL1.out.trans (hb2.mono hL1.out.size)); clear hcx1; clear hb2))
  have hSof : ∀ W', Below w5.heap.size w5 W' → W'.cell? ⟨w3.heap.size, 0, none⟩ = some (.int .i64 y.kind) ∧ W'.cell? ⟨w3.heap.size, 1, none⟩ = some (.bool y.truth) ∧ W'.cell? ⟨w3.heap.size, 2, none⟩ = some (.bool y.neg) ∧ W'.cell? ⟨w3.heap.size, 3, none⟩ = some (.string y.digits) ∧ W'.cell? ⟨w3.heap.size, 4, none⟩ = some (.int .i64 y.exp) ∧ W'.cell? ⟨w3.heap.size, 5, none⟩ = some (.string y.text) ∧ W'.cell? ⟨w3.heap.size, 6, none⟩ = some (.slice A3 y.list.length c3) ∧ W'.cell? ⟨w3.heap.size, 7, none⟩ = some (.slice B3 y.fields.length d3) := fun W' hb => by
    have k1 := cellAll ((hb.block _ (blk_lt hy5.out)).trans hy5.out)
    exact ⟨k1 0, k1 1, k1 2, k1 3, k1 4, k1 5, k1 6, k1 7⟩
  have hS5 := hSof w5 (Below.refl _ _)
  have hb50 := (Below.refl w5.heap.size w5).drew
  have hS50 := hSof _ hb50
  go_region_held3 (fun W' => W'.cell? ⟨w3.heap.size, 0, none⟩ = some (.int .i64 y.kind) ∧ W'.cell? ⟨w3.heap.size, 1, none⟩ = some (.bool y.truth) ∧ W'.cell? ⟨w3.heap.size, 2, none⟩ = some (.bool y.neg) ∧ W'.cell? ⟨w3.heap.size, 3, none⟩ = some (.string y.digits) ∧ W'.cell? ⟨w3.heap.size, 4, none⟩ = some (.int .i64 y.exp) ∧ W'.cell? ⟨w3.heap.size, 5, none⟩ = some (.string y.text) ∧ W'.cell? ⟨w3.heap.size, 6, none⟩ = some (.slice A3 y.list.length c3) ∧ W'.cell? ⟨w3.heap.size, 7, none⟩ = some (.slice B3 y.fields.length d3)) (first | exact hS5 | exact hS50 | exact hS6 | exact hS7 | (simp [*]; done))
    (first
      | (go_at_call 22; refine (like_same y _ _ _ hKn (kV.K_below hb6 hKy5.out)).mono ?_; rintro e w7 ⟨rfl, hb7'⟩; have hb7 := hb6.trans (hb7'.mono hb6.size); have hS7 := hSof _ hb7)
      | (go_at_call 15; refine (cNy _ _ (kV.K_below hb50 hKy5.out) ((hP.out.below hL5.out).facts.below hb50)).mono ?_; rintro e w6 ⟨An, cn, Bn, dn, rfl, hKn, hb6'⟩; have hb6 := hb50.trans (hb6'.mono hb50.size); have hS6 := hSof _ hb6))
  all_goals (clear hS5 hS50 hS6 hS7 hSof hb7' hb6' hb6 hKn hb50)
  all_goals (have hx7 := Aside0.mk ((hb7.block _ (blk_lt hx5.out)).trans hx5.out); have hcx7 := cellAll hx7.out; have hKx7 := Aside0.mk (kV.K_below hb7 hKx5.out); have hy7 := Aside0.mk ((hb7.block _ (blk_lt hy5.out)).trans hy5.out); have hcy7 := cellAll hy7.out; have hKy7 := Aside0.mk (kV.K_below hb7 hKy5.out); have hL7 := Aside0.mk (hL5.out.trans (hb7.mono hL5.out.size)); clear hcx5 hcy5; clear hb7)
  all_goals (go_wp2_with (first
    | (go_at_call 22; refine (like_same y _ _ _ hKz12.out hKy12.out).mono ?_; rintro e w13 ⟨rfl, hb13⟩; have hx13 := Aside0.mk ((hb13.block _ (blk_lt hx12.out)).trans hx12.out); have hcx13 := cellAll hx13.out; have hKx13 := Aside0.mk (kV.K_below hb13 hKx12.out); have hy13 := Aside0.mk ((hb13.block _ (blk_lt hy12.out)).trans hy12.out); have hcy13 := cellAll hy13.out; have hKy13 := Aside0.mk (kV.K_below hb13 hKy12.out); have hz13 := Aside0.mk ((hb13.block _ (blk_lt hz12.out)).trans hz12.out); have hcz13 := cellAll hz13.out; have hKz13 := Aside0.mk (kV.K_below hb13 hKz12.out); have hL13 := Aside0.mk (hL12.out.trans (hb13.mono hL12.out.size)); clear hcx12 hcy12 hcz12; clear hb13)
    | (go_at_call 29; refine (cP _ (hP.out.below hL10.out)).mono ?_; rintro e w11 ⟨A11, c11, B11, d11, rfl, hK11, hb11⟩; have hB12 := (Below.refl w11.heap.size w11).alloc (Nat.le_refl _) (.cells #[.int .i64 y.kind, .bool y.truth, .bool y.neg, .string y.digits, .int .i64 y.exp, .string y.text, .slice A11 y.list.length c11, .slice B11 y.fields.length d11] 27); have hz12 := Aside0.mk (heap_alloc_new w11 (.cells #[.int .i64 y.kind, .bool y.truth, .bool y.neg, .string y.digits, .int .i64 y.exp, .string y.text, .slice A11 y.list.length c11, .slice B11 y.fields.length d11] 27)); have hcz12 := cellAll hz12.out; have hKz12 := Aside0.mk (kV.K_below hB12 hK11); have hb12 := hb11.trans (hB12.mono hb11.size); have hx12 := Aside0.mk ((hb12.block _ (blk_lt hx10.out)).trans hx10.out); have hcx12 := cellAll hx12.out; have hKx12 := Aside0.mk (kV.K_below hb12 hKx10.out); have hy12 := Aside0.mk ((hb12.block _ (blk_lt hy10.out)).trans hy10.out); have hcy12 := cellAll hy12.out; have hKy12 := Aside0.mk (kV.K_below hb12 hKy10.out); have hL12 := Aside0.mk (hL10.out.trans (hb12.mono hL10.out.size)); clear hcx10 hcy10; clear hb12; clear hb11 hB12 hK11)
    | (go_at_call 28; refine (cO _ _ hKx9.out (hP.out.below hL9.out).facts).mono ?_; rintro e w10 ⟨rfl, hb10⟩; have hx10 := Aside0.mk ((hb10.block _ (blk_lt hx9.out)).trans hx9.out); have hcx10 := cellAll hx10.out; have hKx10 := Aside0.mk (kV.K_below hb10 hKx9.out); have hy10 := Aside0.mk ((hb10.block _ (blk_lt hy9.out)).trans hy9.out); have hcy10 := cellAll hy10.out; have hKy10 := Aside0.mk (kV.K_below hb10 hKy9.out); have hL10 := Aside0.mk (hL9.out.trans (hb10.mono hL9.out.size)); clear hcx9 hcy9; clear hb10)
    | (go_at_call 26; refine (cS _ _ _ hKx8.out hKy8.out (hP.out.below hL8.out).facts).mono ?_; rintro e w9 ⟨rfl, hb9⟩; have hx9 := Aside0.mk ((hb9.block _ (blk_lt hx8.out)).trans hx8.out); have hcx9 := cellAll hx9.out; have hKx9 := Aside0.mk (kV.K_below hb9 hKx8.out); have hy9 := Aside0.mk ((hb9.block _ (blk_lt hy8.out)).trans hy8.out); have hcy9 := cellAll hy9.out; have hKy9 := Aside0.mk (kV.K_below hb9 hKy8.out); have hL9 := Aside0.mk (hL8.out.trans (hb9.mono hL8.out.size)); clear hcx8 hcy8; clear hb9)
    | (go_at_call 12; refine (cRy _ _ hKy7.out (hP.out.below hL7.out).facts).mono ?_; rintro e w8 ⟨rfl, hb8⟩; have hx8 := Aside0.mk ((hb8.block _ (blk_lt hx7.out)).trans hx7.out); have hcx8 := cellAll hx8.out; have hKx8 := Aside0.mk (kV.K_below hb8 hKx7.out); have hy8 := Aside0.mk ((hb8.block _ (blk_lt hy7.out)).trans hy7.out); have hcy8 := cellAll hy8.out; have hKy8 := Aside0.mk (kV.K_below hb8 hKy7.out); have hL8 := Aside0.mk (hL7.out.trans (hb8.mono hL7.out.size)); clear hcx7 hcy7; clear hb8)))
  all_goals (have hSof : ∀ W', Below w13.heap.size w13 W' → W'.cell? ⟨w11.heap.size, 0, none⟩ = some (.int .i64 y.kind) ∧ W'.cell? ⟨w11.heap.size, 1, none⟩ = some (.bool y.truth) ∧ W'.cell? ⟨w11.heap.size, 2, none⟩ = some (.bool y.neg) ∧ W'.cell? ⟨w11.heap.size, 3, none⟩ = some (.string y.digits) ∧ W'.cell? ⟨w11.heap.size, 4, none⟩ = some (.int .i64 y.exp) ∧ W'.cell? ⟨w11.heap.size, 5, none⟩ = some (.string y.text) ∧ W'.cell? ⟨w11.heap.size, 6, none⟩ = some (.slice A11 y.list.length c11) ∧ W'.cell? ⟨w11.heap.size, 7, none⟩ = some (.slice B11 y.fields.length d11) ∧ W'.cell? ⟨w.heap.size, 0, none⟩ = some (.int .i64 x.kind) ∧ W'.cell? ⟨w.heap.size, 1, none⟩ = some (.bool x.truth) ∧ W'.cell? ⟨w.heap.size, 2, none⟩ = some (.bool x.neg) ∧ W'.cell? ⟨w.heap.size, 3, none⟩ = some (.string x.digits) ∧ W'.cell? ⟨w.heap.size, 4, none⟩ = some (.int .i64 x.exp) ∧ W'.cell? ⟨w.heap.size, 5, none⟩ = some (.string x.text) ∧ W'.cell? ⟨w.heap.size, 6, none⟩ = some (.slice A x.list.length c) ∧ W'.cell? ⟨w.heap.size, 7, none⟩ = some (.slice B x.fields.length d) := fun W' hb => (by have k1 := cellAll ((hb.block _ (blk_lt hz13.out)).trans hz13.out); have k2 := cellAll ((hb.block _ (blk_lt hx13.out)).trans hx13.out); exact ⟨k1 0, k1 1, k1 2, k1 3, k1 4, k1 5, k1 6, k1 7, k2 0, k2 1, k2 2, k2 3, k2 4, k2 5, k2 6, k2 7⟩))
  all_goals (have hS13 := hSof w13 (Below.refl _ _))
  all_goals (have hb130 := (Below.refl w13.heap.size w13).drew)
  all_goals (have hS130 := hSof _ hb130)
  all_goals (clear hcx13 hcy13 hcz13)
  all_goals (go_region_held3 (fun W' => W'.cell? ⟨w11.heap.size, 0, none⟩ = some (.int .i64 y.kind) ∧ W'.cell? ⟨w11.heap.size, 1, none⟩ = some (.bool y.truth) ∧ W'.cell? ⟨w11.heap.size, 2, none⟩ = some (.bool y.neg) ∧ W'.cell? ⟨w11.heap.size, 3, none⟩ = some (.string y.digits) ∧ W'.cell? ⟨w11.heap.size, 4, none⟩ = some (.int .i64 y.exp) ∧ W'.cell? ⟨w11.heap.size, 5, none⟩ = some (.string y.text) ∧ W'.cell? ⟨w11.heap.size, 6, none⟩ = some (.slice A11 y.list.length c11) ∧ W'.cell? ⟨w11.heap.size, 7, none⟩ = some (.slice B11 y.fields.length d11) ∧ W'.cell? ⟨w.heap.size, 0, none⟩ = some (.int .i64 x.kind) ∧ W'.cell? ⟨w.heap.size, 1, none⟩ = some (.bool x.truth) ∧ W'.cell? ⟨w.heap.size, 2, none⟩ = some (.bool x.neg) ∧ W'.cell? ⟨w.heap.size, 3, none⟩ = some (.string x.digits) ∧ W'.cell? ⟨w.heap.size, 4, none⟩ = some (.int .i64 x.exp) ∧ W'.cell? ⟨w.heap.size, 5, none⟩ = some (.string x.text) ∧ W'.cell? ⟨w.heap.size, 6, none⟩ = some (.slice A x.list.length c) ∧ W'.cell? ⟨w.heap.size, 7, none⟩ = some (.slice B x.fields.length d)) (first | exact hS13 | exact hS130 | exact hS14 | exact hS15 | exact hS16 | (simp [*]; done))
    (first
      | (go_at_call 18; refine (cDx _ _ (kV.K_below hb15 hKx13.out) ((hP.out.below hL13.out).facts.below hb15)).mono ?_; rintro e w16 ⟨rfl, hb16'⟩; have hb16 := hb15.trans (hb16'.mono hb15.size); have hS16 := hSof _ hb16)
      | (go_at_call 18; refine (cDy _ _ (kV.K_below hb14 hKz13.out) ((hP.out.below hL13.out).facts.below hb14)).mono ?_; rintro e w15 ⟨rfl, hb15'⟩; have hb15 := hb14.trans (hb15'.mono hb14.size); have hS15 := hSof _ hb15)
      | (go_at_call 12; refine (cRy _ _ (kV.K_below hb130 hKz13.out) ((hP.out.below hL13.out).facts.below hb130)).mono ?_; rintro e w14 ⟨rfl, hb14'⟩; have hb14 := hb130.trans (hb14'.mono hb130.size); have hS14 := hSof _ hb14)))
  all_goals (go_wp2_with fail)
  all_goals go_ret
  all_goals (first | exact ⟨rfl, hL13.out.trans (hb16.mono hL13.out.size)⟩ | exact ⟨by simp [Act.put, go_sem], hL13.out.trans (hb16.mono hL13.out.size)⟩)


set_option maxRecDepth 100000 in
set_option maxHeartbeats 16000000 in
theorem back_unsound (E : ErrV) (x : JV) (w : World) (cs : List Value) (hK : kV.K w x cs) (hP : PEnv E w) (hx : x.fits) (hso : ¬ (x.norm.deep ≤ 64 ∧ x.norm.put.length ≤ 1048576)) :
    Calls Tryz.prog 6 #[.agg cs.toArray] w fun e w' => e = .returned (.bool true) ∧ Below w.heap.size w w' := by
  obtain ⟨A, c, B, d, rfl, _⟩ := VC.of hK
  obtain ⟨W0, hW0⟩ : ∃ W0, w.alloc (.cells #[.int .i64 x.kind, .bool x.truth, .bool x.neg, .string x.digits, .int .i64 x.exp, .string x.text, .slice A x.list.length c, .slice B x.fields.length d] 27) = W0 := ⟨_, rfl⟩
  have hB0 : Below w.heap.size w W0 := by rw [← hW0]; exact (Below.refl _ w).alloc (Nat.le_refl _) _
  have hk : W0.heap[w.heap.size]? = some (.cells #[.int .i64 x.kind, .bool x.truth, .bool x.neg, .string x.digits, .int .i64 x.exp, .string x.text, .slice A x.list.length c, .slice B x.fields.length d] 27 (0, 0)) := by rw [← hW0]; exact heap_alloc_new w _
  have hc0' := cellAll hk
  have hK0 := Aside0.mk (kV.K_below hB0 hK)
  have cH := Aside0.mk (heavy_any x W0 _ hK0.out hx)
  unfold JV.cells at *
  replace hP := Aside0.mk hP
  replace hB0 := Aside0.mk hB0
  replace hk := Aside0.mk hk
  replace hso := Aside0.mk hso
  have hxi := fits_ints x hx
  have hNy := norm_isN x
  have hny := norm_norm x
  have hiy := norm_ints x
  have hwy := norm_wt x
  clear hK hx
  go_enter Tryz.func6, Tryz.ntmps6
  go_wp2_with (go_at_call 9; refine cH.out.mono ?_; clear cH; rintro e w1 ⟨b1, rfl, hb1x, hb1⟩; have hL1 := Aside0.mk (hB0.out.trans (hb1.mono hB0.out.size)); have hx1 := Aside0.mk ((hb1.block _ (blk_lt hk.out)).trans hk.out); have hcx1 := cellAll hx1.out; have hKx1 := Aside0.mk (kV.K_below hb1 hK0.out); clear hc0' hb1)
  · go_ret; exact ⟨rfl, hL1.out⟩
  have hxw := hb1x ‹b1 = false›
  clear hb1x
  have cN := fun (W : World) (cs : List Value) (hK : kV.K W x cs) (hF : Facts W) => norm_to x W cs hK hF (by omega) hxi
  have cR := fun (W : World) (cs : List Value) (hK : kV.K W x cs) (hF : Facts W) => print_any x W cs hK hF (by omega) hxi
  have cNy := fun (W : World) (cs : List Value) (hK : kV.K W x.norm cs) (hF : Facts W) => norm_same x.norm hny W cs hK hF (by omega) hiy
  have cRy := fun (W : World) (cs : List Value) (hK : kV.K W x.norm cs) (hF : Facts W) => print_same x.norm hny W cs hK hF (by omega) hiy
  have cS := fun (W : World) (cs cs' : List Value) (hK : kV.K W x cs) (hK' : kV.K W x.norm cs') (hF : Facts W) => same_any x x.norm W cs cs' hK hK' hF (by omega) hxi (by omega) hiy
  have cO := fun (W : World) (cs : List Value) (hK : kV.K W x cs) (hF : Facts W) => sound_any x W cs hK hF (by omega) hxi
  have hpe : x.print = x.norm.print := by unfold JV.print; rw [hny]
  have hpx : x.print = x.norm.put := rfl
  rw [decide_eq_true hpe] at cS
  rw [hpx] at cR
  have hof : (decide (x.norm.deep ≤ 64) && decide (x.norm.put.length ≤ 1048576)) = false := by
    rw [Bool.and_eq_false_iff]
    by_cases h1 : x.norm.deep ≤ 64
    · exact .inr (decide_eq_false fun h2 => hso.out ⟨h1, h2⟩)
    · exact .inl (decide_eq_false h1)
  rw [hof] at cO
  have hbad : 1048576 < (⟨x.norm.put.toArray⟩ : ByteArray).size ∨ ∃ k e, parseTo ⟨x.norm.put.toArray⟩ = .no k e := by
    by_cases h1 : x.norm.deep ≤ 64
    · exact .inl (by rw [size_mk]; have := hso.out; omega)
    · exact .inr (parse_too_deep x.norm hNy (by omega))
  have cP := fun (W : World) (hP : PEnv E W) => parse_fault E ⟨x.norm.put.toArray⟩ W hP hbad
  clear hof hbad
  obtain ⟨s, hs⟩ : ∃ s : ByteArray, (⟨x.norm.put.toArray⟩ : ByteArray) = s := ⟨_, rfl⟩
  rw [hs] at cR cRy cP
  clear hpe hpx hs
  generalize x.norm = y at *
  go_wp2_with (first
    | (go_at_call 12; refine (cR _ _ hKx4.out (hP.out.below hL4.out).facts).mono ?_; rintro e w5 ⟨rfl, hb5⟩; have hx5 := Aside0.mk ((hb5.block _ (blk_lt hx4.out)).trans hx4.out); have hcx5 := cellAll hx5.out; have hKx5 := Aside0.mk (kV.K_below hb5 hKx4.out); have hy5 := Aside0.mk ((hb5.block _ (blk_lt hy4.out)).trans hy4.out); have hcy5 := cellAll hy5.out; have hKy5 := Aside0.mk (kV.K_below hb5 hKy4.out); have hL5 := Aside0.mk (hL4.out.trans (hb5.mono hL4.out.size)); clear hcx4 hcy4; clear hb5)
    | (go_at_call 15; refine (cN _ _ hKx2.out (hP.out.below hL2.out).facts).mono ?_; rintro e w3 ⟨A3, c3, B3, d3, rfl, hK3, hb3⟩; have hB4 := (Below.refl w3.heap.size w3).alloc (Nat.le_refl _) (.cells #[.int .i64 y.kind, .bool y.truth, .bool y.neg, .string y.digits, .int .i64 y.exp, .string y.text, .slice A3 y.list.length c3, .slice B3 y.fields.length d3] 27); have hy4 := Aside0.mk (heap_alloc_new w3 (.cells #[.int .i64 y.kind, .bool y.truth, .bool y.neg, .string y.digits, .int .i64 y.exp, .string y.text, .slice A3 y.list.length c3, .slice B3 y.fields.length d3] 27)); have hcy4 := cellAll hy4.out; have hKy4 := Aside0.mk (kV.K_below hB4 hK3); have hb4 := hb3.trans (hB4.mono hb3.size); have hx4 := Aside0.mk ((hb4.block _ (blk_lt hx2.out)).trans hx2.out); have hcx4 := cellAll hx4.out; have hKx4 := Aside0.mk (kV.K_below hb4 hKx2.out); have hL4 := Aside0.mk (hL2.out.trans (hb4.mono hL2.out.size)); clear hcx2; clear hb4; clear hb3 hB4 hK3)
    | (go_at_call 10; refine (awake_any E _ (hP.out.below hL1.out)).mono ?_; rintro e w2 ⟨rfl, hb2⟩; have hx2 := Aside0.mk ((hb2.block _ (blk_lt hx1.out)).trans hx1.out); have hcx2 := cellAll hx2.out; have hKx2 := Aside0.mk (kV.K_below hb2 hKx1.out); have hL2 := Aside0.mk (hL1.out.trans (hb2.mono hL1.out.size)); clear hcx1; clear hb2))
  have hSof : ∀ W', Below w5.heap.size w5 W' → W'.cell? ⟨w3.heap.size, 0, none⟩ = some (.int .i64 y.kind) ∧ W'.cell? ⟨w3.heap.size, 1, none⟩ = some (.bool y.truth) ∧ W'.cell? ⟨w3.heap.size, 2, none⟩ = some (.bool y.neg) ∧ W'.cell? ⟨w3.heap.size, 3, none⟩ = some (.string y.digits) ∧ W'.cell? ⟨w3.heap.size, 4, none⟩ = some (.int .i64 y.exp) ∧ W'.cell? ⟨w3.heap.size, 5, none⟩ = some (.string y.text) ∧ W'.cell? ⟨w3.heap.size, 6, none⟩ = some (.slice A3 y.list.length c3) ∧ W'.cell? ⟨w3.heap.size, 7, none⟩ = some (.slice B3 y.fields.length d3) := fun W' hb => by
    have k1 := cellAll ((hb.block _ (blk_lt hy5.out)).trans hy5.out)
    exact ⟨k1 0, k1 1, k1 2, k1 3, k1 4, k1 5, k1 6, k1 7⟩
  have hS5 := hSof w5 (Below.refl _ _)
  have hb50 := (Below.refl w5.heap.size w5).drew
  have hS50 := hSof _ hb50
  go_region_held3 (fun W' => W'.cell? ⟨w3.heap.size, 0, none⟩ = some (.int .i64 y.kind) ∧ W'.cell? ⟨w3.heap.size, 1, none⟩ = some (.bool y.truth) ∧ W'.cell? ⟨w3.heap.size, 2, none⟩ = some (.bool y.neg) ∧ W'.cell? ⟨w3.heap.size, 3, none⟩ = some (.string y.digits) ∧ W'.cell? ⟨w3.heap.size, 4, none⟩ = some (.int .i64 y.exp) ∧ W'.cell? ⟨w3.heap.size, 5, none⟩ = some (.string y.text) ∧ W'.cell? ⟨w3.heap.size, 6, none⟩ = some (.slice A3 y.list.length c3) ∧ W'.cell? ⟨w3.heap.size, 7, none⟩ = some (.slice B3 y.fields.length d3)) (first | exact hS5 | exact hS50 | exact hS6 | exact hS7 | (simp [*]; done))
    (first
      | (go_at_call 22; refine (like_same y _ _ _ hKn (kV.K_below hb6 hKy5.out)).mono ?_; rintro e w7 ⟨rfl, hb7'⟩; have hb7 := hb6.trans (hb7'.mono hb6.size); have hS7 := hSof _ hb7)
      | (go_at_call 15; refine (cNy _ _ (kV.K_below hb50 hKy5.out) ((hP.out.below hL5.out).facts.below hb50)).mono ?_; rintro e w6 ⟨An, cn, Bn, dn, rfl, hKn, hb6'⟩; have hb6 := hb50.trans (hb6'.mono hb50.size); have hS6 := hSof _ hb6))
  all_goals (clear hS5 hS50 hS6 hS7 hSof hb7' hb6' hb6 hKn hb50)
  all_goals (have hx7 := Aside0.mk ((hb7.block _ (blk_lt hx5.out)).trans hx5.out); have hcx7 := cellAll hx7.out; have hKx7 := Aside0.mk (kV.K_below hb7 hKx5.out); have hy7 := Aside0.mk ((hb7.block _ (blk_lt hy5.out)).trans hy5.out); have hcy7 := cellAll hy7.out; have hKy7 := Aside0.mk (kV.K_below hb7 hKy5.out); have hL7 := Aside0.mk (hL5.out.trans (hb7.mono hL5.out.size)); clear hcx5 hcy5; clear hb7)
  all_goals (go_wp2_with (first
    | (go_at_call 29; refine (cP _ (hP.out.below hL10.out)).mono ?_; rintro e w11 ⟨k11, kk11, a11, rfl, _, _, _, _, hb11⟩; have hL12 := Aside0.mk (hL10.out.trans (hb11.mono hL10.out.size)); clear hb11)
    | (go_at_call 28; refine (cO _ _ hKx9.out (hP.out.below hL9.out).facts).mono ?_; rintro e w10 ⟨rfl, hb10⟩; have hx10 := Aside0.mk ((hb10.block _ (blk_lt hx9.out)).trans hx9.out); have hcx10 := cellAll hx10.out; have hKx10 := Aside0.mk (kV.K_below hb10 hKx9.out); have hy10 := Aside0.mk ((hb10.block _ (blk_lt hy9.out)).trans hy9.out); have hcy10 := cellAll hy10.out; have hKy10 := Aside0.mk (kV.K_below hb10 hKy9.out); have hL10 := Aside0.mk (hL9.out.trans (hb10.mono hL9.out.size)); clear hcx9 hcy9; clear hb10)
    | (go_at_call 26; refine (cS _ _ _ hKx8.out hKy8.out (hP.out.below hL8.out).facts).mono ?_; rintro e w9 ⟨rfl, hb9⟩; have hx9 := Aside0.mk ((hb9.block _ (blk_lt hx8.out)).trans hx8.out); have hcx9 := cellAll hx9.out; have hKx9 := Aside0.mk (kV.K_below hb9 hKx8.out); have hy9 := Aside0.mk ((hb9.block _ (blk_lt hy8.out)).trans hy8.out); have hcy9 := cellAll hy9.out; have hKy9 := Aside0.mk (kV.K_below hb9 hKy8.out); have hL9 := Aside0.mk (hL8.out.trans (hb9.mono hL8.out.size)); clear hcx8 hcy8; clear hb9)
    | (go_at_call 12; refine (cRy _ _ hKy7.out (hP.out.below hL7.out).facts).mono ?_; rintro e w8 ⟨rfl, hb8⟩; have hx8 := Aside0.mk ((hb8.block _ (blk_lt hx7.out)).trans hx7.out); have hcx8 := cellAll hx8.out; have hKx8 := Aside0.mk (kV.K_below hb8 hKx7.out); have hy8 := Aside0.mk ((hb8.block _ (blk_lt hy7.out)).trans hy7.out); have hcy8 := cellAll hy8.out; have hKy8 := Aside0.mk (kV.K_below hb8 hKy7.out); have hL8 := Aside0.mk (hL7.out.trans (hb8.mono hL7.out.size)); clear hcx7 hcy7; clear hb8)))
  all_goals go_ret
  all_goals exact ⟨rfl, hL12.out.alloc hL12.out.size _⟩


/-- **voyagelaw02.JsonBack.** -/
theorem jsonBack_any (E : ErrV) (x : JV) (w : World) (cs : List Value) (hK : kV.K w x cs) (hP : PEnv E w) (hx : x.fits) :
    Calls Tryz.prog 6 #[.agg cs.toArray] w fun e w' => e = .returned (.bool true) ∧ Below w.heap.size w w' := by
  by_cases h : x.norm.deep ≤ 64 ∧ x.norm.put.length ≤ 1048576
  · exact back_sound E x w cs hK hP hx h
  · exact back_unsound E x w cs hK hP hx h
end Go.Proofs.YtmfijfcikecglaaGreatDoor
end
