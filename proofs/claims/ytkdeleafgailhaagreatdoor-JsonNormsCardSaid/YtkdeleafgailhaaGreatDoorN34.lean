/- voyagelaw02.JsonNorms. -/
import Derived.Test.YtkdeleafgailhaaGreatDoorN33
import Derived.Test.YtkdeleafgailhaaGreatDoorN20
section
set_option linter.unusedVariables false
set_option linter.unusedSimpArgs false
namespace Go.Proofs.YtkdeleafgailhaaGreatDoor
open Go Go.RowKit Go.Proofs.YtkdeleafgailhaaGreatDoorW.PrintWords

section
variable {ops : Array Oper} {rest : List Oper} {o : Oper} {a : Act} {Q : Exit → Act → World → Prop} {w : World}
theorem vlist_load_want {cs : Array Value} {B : Nat} (x : Operand) (hw : Region.wanted o (yielded ops a.tmps) = true) (ho : o.op = .load 27 x) (hx : a.eval x = .pointer (some ⟨B, 0, none⟩)) (hb : w.heap[B]? = some (.cells cs 27 (0, 0))) (hcs : cs.size = 8) (h : wpList Tryz.prog ops Q rest (a.put o.dst (.agg cs)) w) : wpList Tryz.prog ops Q (o :: rest) a w :=
  BigFrame.wpList_want hw fun _ hK => wp_load_row 27 x ho B hx 27 cs (0, 0) _ hb Tryz.underlying27 rfl (size_V8 hcs) (hK _ _ h)
end
theorem nul_small : JV.nul.wt = 1 ∧ JV.nul.ints := ⟨by unfold JV.nul; rw [JV.wt, JV.wtL, JV.wtF]; rfl, by unfold JV.nul; rw [JV.ints, JV.intsL, JV.intsF]; decide⟩
theorem get_small (x : JV) (name : ByteArray) (hx : x.ints) : (x.get_ name).1.wt ≤ 4 * x.wt ∧ (x.get_ name).1.ints := by
  obtain ⟨k, t, n, d, e, s, l, f⟩ := x
  have h1 : 1 ≤ (JV.mk k t n d e s l f).wt := by rw [JV.wt]; omega
  show (getK k f name).1.wt ≤ _ ∧ (getK k f name).1.ints
  unfold getK
  by_cases h5 : k = 5
  · rw [if_pos h5]
    unfold getF
    cases hf : f.find? (fun g => decide (clean g.name = clean name)) with
    | none => exact ⟨by rw [nul_small.1]; omega, nul_small.2⟩
    | some g =>
      have hm := wt_memF (List.mem_of_find?_eq_some hf)
      have hw := norm_wt g.value
      refine ⟨?_, norm_ints g.value⟩
      show g.value.norm.wt ≤ _
      rw [JV.wt]
      omega
  · rw [if_neg h5]
    exact ⟨by rw [nul_small.1]; omega, nul_small.2⟩
theorem at_small (x : JV) (i : Int) (hx : x.ints) : (x.at_ i).1.wt ≤ 4 * x.wt ∧ (x.at_ i).1.ints := by
  obtain ⟨k, t, n, d, e, s, l, f⟩ := x
  have h1 : 1 ≤ (JV.mk k t n d e s l f).wt := by rw [JV.wt]; omega
  show (atL k l i).1.wt ≤ _ ∧ (atL k l i).1.ints
  unfold atL
  by_cases h5 : k = 4 ∧ 0 ≤ i ∧ i < (l.length : Int)
  · rw [if_pos h5]
    have hl : i.toNat < l.length := by omega
    have hm := wt_memL (List.getElem_mem hl)
    have hw := norm_wt l[i.toNat]
    have he : l.getD i.toNat JV.nul = l[i.toNat] := by rw [List.getD_eq_getElem?_getD, List.getElem?_eq_getElem hl]; rfl
    refine ⟨?_, norm_ints _⟩
    show (l.getD i.toNat JV.nul).norm.wt ≤ _
    rw [he, JV.wt]
    omega
  · rw [if_neg h5]
    exact ⟨by rw [nul_small.1]; omega, nul_small.2⟩
set_option maxRecDepth 100000 in
set_option maxHeartbeats 32000000 in
/-- **voyagelaw02.JsonNorms.** -/
theorem jsonNorms_any (E : ErrV) (x : JV) (name : ByteArray) (i : Int) (w : World) (cs : List Value) (hK : kV.K w x cs) (hP : PEnv E w) (hx : x.fits) :
    Calls Tryz.prog 3 #[.agg cs.toArray, .string name, .int .i64 i] w fun e w' => e = .returned (.bool true) ∧ Below w.heap.size w w' := by
  obtain ⟨A, c, B, d, rfl, _⟩ := VC.of hK
  have hK0 : kV.K w x (vA x A c B d).toList := hK
  unfold JV.cells
  obtain ⟨w1, hw1⟩ : ∃ w1, w.alloc (.cells #[.int .i64 x.kind, .bool x.truth, .bool x.neg, .string x.digits, .int .i64 x.exp, .string x.text, .slice A x.list.length c, .slice B x.fields.length d] 27) = w1 := ⟨_, rfl⟩
  have hL1 : Below w.heap.size w w1 := by rw [← hw1]; exact (Below.refl _ w).alloc (Nat.le_refl _) _
  have hX1 : w1.heap[w.heap.size]? = some (.cells (vA x A c B d) 27 (0, 0)) := by rw [← hw1]; exact heap_alloc_new w _
  have cH := heavy_any x w1 _ (kV.K_below hL1 hK0) hx
  simp only [Array.toArray_toList] at cH
  have hxi := fits_ints x hx
  replace hxi := Aside0.mk hxi
  replace hL1 := Aside0.mk hL1
  replace hX1 := Aside0.mk hX1
  replace cH := Aside0.mk cH
  replace hP := Aside0.mk hP
  replace hK0 := Aside0.mk hK0
  clear hK hx
  by_cases hbig : 134217728 ≤ name.size
  · replace hbig := Aside0.mk hbig
    go_enter Tryz.func3, Tryz.ntmps3
    go_upto_region 2 with (first
      | ((with_reducible refine vlist_load (cs := (vA x A c B d)) (B := w.heap.size) (.tmp 3) ?o0 ?o1 ?o2 ?o3 ?o4 ?_); (case o0 => rfl); (case o1 => rfl); (case o2 => rfl); (case o3 => exact hX1.out); (case o4 => rfl))
      | (go_at_call 6; refine cH.out.mono ?_; clear cH; rintro e w2 ⟨b1, rfl, hb1, hb2⟩; have hL2 := Aside0.mk (hL1.out.trans (hb2.mono hL1.out.size)); clear hb1 hb2))
    have hbI : (134217728 : Int) ≤ (name.size : Int) := by have := hbig.out; omega
    cases b1
    all_goals (go_wp2_with fail)
    all_goals (go_ret; exact ⟨by simp, hL2.out⟩)
  · have hnm : Aside0 (name.size ≤ 134217728) := ⟨by omega⟩
    replace hbig := Aside0.mk hbig
    go_enter Tryz.func3, Tryz.ntmps3
    go_upto_region 2 with (first
      | ((with_reducible refine vlist_load (cs := (vA x A c B d)) (B := w.heap.size) (.tmp 3) ?o0 ?o1 ?o2 ?o3 ?o4 ?_); (case o0 => rfl); (case o1 => rfl); (case o2 => rfl); (case o3 => exact hX1.out); (case o4 => rfl))
      | (go_at_call 6; refine cH.out.mono ?_; clear cH; rintro e w2 ⟨b1, rfl, hb1, hb2⟩; replace hb1 := Aside0.mk hb1; have hL2 := Aside0.mk (hL1.out.trans (hb2.mono hL1.out.size)); have hX2 := Aside0.mk ((hb2.block _ (blk_lt hX1.out)).trans hX1.out); clear hb2))
    have hbI : ¬ (134217728 : Int) ≤ (name.size : Int) := by have := hbig.out; omega
    cases b1
    rotate_left
    · go_wp2_with fail
      go_ret
      exact ⟨rfl, hL2.out⟩
    go_upto_region 4 with (fail)
    have hwt : Aside0 (x.wt ≤ 4194304) := ⟨hb1.out rfl⟩
    clear hbI hb1 hbig
    have hwN := Aside0.mk (norm_wt x)
    have hiN := Aside0.mk (norm_ints x)
    go_upto_region 6 with (first
      | ((with_reducible refine vlist_load (cs := (vA x A c B d)) (B := w.heap.size) (.tmp 3) ?o0 ?o1 ?o2 ?o3 ?o4 ?_); (case o0 => rfl); (case o1 => rfl); (case o2 => rfl); (case o3 => exact hX3.out); (case o4 => rfl))
      | (go_at_call 7; refine (awake_any E _ (hP.out.below hL2.out)).mono ?_; rintro e w3 ⟨rfl, hb3⟩; have hL3 := Aside0.mk (hL2.out.trans (hb3.mono hL2.out.size)); have hX3 := Aside0.mk ((hb3.block _ (blk_lt hX2.out)).trans hX2.out); clear hX2; clear hb3)
      | (go_at_call 8; refine (lend2_any x _ _ _ _ _ (kV.K_below hL3.out hK0.out) (by have := hwt.out; omega)).mono ?_; rintro e w4 ⟨tb, Ta, Tb, Ta2, Tb2, TL, TF, tc, td, tc2, td2, tlc, tfc, tls, tfs, rfl, hT, hb4, ta, tbb, hta, htb, hH⟩; have hT4 := Aside0.mk hT; have hH4 := Aside0.mk hH; replace hta := Aside0.mk (Nat.lt_of_lt_of_le (blk_lt hX3.out) hta); have hL4 := Aside0.mk (hL3.out.trans (hb4.mono hL3.out.size)); have hX4 := Aside0.mk ((hb4.block _ (blk_lt hX3.out)).trans hX3.out); clear hX3; replace htb := Aside0.mk htb; clear hb4 hT hH))
    have hcT := cellAll hT4.out.blk
    go_upto_region 7 with (first
      | ((with_reducible refine vlist_store (cs := (vA x.norm AlP clP AfP cfP)) (old := zA8) (B := w5.heap.size) (.tmp 10) (.tmp 41) ?o0 ?o1 ?o2 ?o3 ?o4 ?o5 ?o6 (vA_one _ _ _ _ _) ?_); (case o0 => rfl); (case o1 => rfl); (case o2 => rfl); (case o3 => rfl); (case o4 => exact heap_alloc_new w5 _); (case o5 => rfl); (case o6 => rfl))
      | (go_at_call 9; refine (normA_any x _ _ hT4.out.kv ((hP.out.below hL4.out).facts) (by have := hwt.out; omega) hxi.out).mono ?_; rintro e w5 ⟨csP, SP, rfl, hM, hAp, hb5⟩; obtain ⟨vlP, vfP, rfl, hRl, hRf⟩ := kV_openM hM; obtain ⟨AlP, clP, rfl⟩ := Kd.R_slice hRl; obtain ⟨AfP, cfP, rfl⟩ := Kd.R_slice hRf; clear hRl hRf; rw [show (x.norm.cells (.slice AlP x.norm.list.length clP) (.slice AfP x.norm.fields.length cfP)).toArray = vA x.norm AlP clP AfP cfP from rfl]; have hbx : BoxA ((w5.alloc (.cells #[.int .i64 0, .bool false, .bool false, .string ⟨#[]⟩, .int .i64 0, .string ⟨#[]⟩, .slice none 0 0, .slice none 0 0] 27)).setRow w5.heap.size (vA x.norm AlP clP AfP cfP)) w4.heap.size w5.heap.size x.norm w5.heap.size AlP clP AfP cfP SP ∧ Below w5.heap.size w5 ((w5.alloc (.cells #[.int .i64 0, .bool false, .bool false, .string ⟨#[]⟩, .int .i64 0, .string ⟨#[]⟩, .slice none 0 0, .slice none 0 0] 27)).setRow w5.heap.size (vA x.norm AlP clP AfP cfP)) := boxA_new hb5.size hM hAp; have hP6 := Aside0.mk hbx.1; have hb6 := hb5.trans (hbx.2.mono hb5.size); have hltP := Aside0.mk hb5.size; have hmP := Aside0.mk hbx.2.size; clear hbx hM hAp; have hL6 := Aside0.mk (hL4.out.trans (hb6.mono hL4.out.size)); have hX6 := Aside0.mk ((hb6.block _ (blk_lt hX4.out)).trans hX4.out); have hT6 := Aside0.mk (hT4.out.below hb6); have hH6 := Aside0.mk (hH4.out.below hb6); clear hX4 hT4 hH4; have hz6 := Aside0.mk hb6.size; clear hb5 hb6))
    clear hcT
    generalize (World.setRow _ _ _) = w6 at hL6 hX6 hT6 hH6 hP6 hz6 hmP ⊢
    have hcT := cellAll hT6.out.blk
    go_upto_region 8 with (first
      | ((with_reducible refine vlist_store (cs := (vA x.norm AlQ clQ AfQ cfQ)) (old := zA8) (B := w7.heap.size) (.tmp 11) (.tmp 46) ?o0 ?o1 ?o2 ?o3 ?o4 ?o5 ?o6 (vA_one _ _ _ _ _) ?_); (case o0 => rfl); (case o1 => rfl); (case o2 => rfl); (case o3 => rfl); (case o4 => exact heap_alloc_new w7 _); (case o5 => rfl); (case o6 => rfl))
      | (go_at_call 9; refine (normA_any x _ _ hT6.out.kv ((hP.out.below hL6.out).facts) (by have := hwt.out; omega) hxi.out).mono ?_; rintro e w7 ⟨csQ, SQ, rfl, hM, hAp, hb7⟩; obtain ⟨vlQ, vfQ, rfl, hRl, hRf⟩ := kV_openM hM; obtain ⟨AlQ, clQ, rfl⟩ := Kd.R_slice hRl; obtain ⟨AfQ, cfQ, rfl⟩ := Kd.R_slice hRf; clear hRl hRf; rw [show (x.norm.cells (.slice AlQ x.norm.list.length clQ) (.slice AfQ x.norm.fields.length cfQ)).toArray = vA x.norm AlQ clQ AfQ cfQ from rfl]; have hbx : BoxA ((w7.alloc (.cells #[.int .i64 0, .bool false, .bool false, .string ⟨#[]⟩, .int .i64 0, .string ⟨#[]⟩, .slice none 0 0, .slice none 0 0] 27)).setRow w7.heap.size (vA x.norm AlQ clQ AfQ cfQ)) w6.heap.size w7.heap.size x.norm w7.heap.size AlQ clQ AfQ cfQ SQ ∧ Below w7.heap.size w7 ((w7.alloc (.cells #[.int .i64 0, .bool false, .bool false, .string ⟨#[]⟩, .int .i64 0, .string ⟨#[]⟩, .slice none 0 0, .slice none 0 0] 27)).setRow w7.heap.size (vA x.norm AlQ clQ AfQ cfQ)) := boxA_new hb7.size hM hAp; have hQ8 := Aside0.mk hbx.1; have hb8 := hb7.trans (hbx.2.mono hb7.size); have hltQ := Aside0.mk hb7.size; have hmQ := Aside0.mk hbx.2.size; clear hbx hM hAp; have hL8 := Aside0.mk (hL6.out.trans (hb8.mono hL6.out.size)); have hX8 := Aside0.mk ((hb8.block _ (blk_lt hX6.out)).trans hX6.out); have hT8 := Aside0.mk (hT6.out.below hb8); have hH8 := Aside0.mk (hH6.out.below hb8); have hP8 := Aside0.mk (hP6.out.below hb8); clear hX6 hT6 hH6 hP6; have hz8 := Aside0.mk hb8.size; clear hb7 hb8))
    clear hcT
    generalize (World.setRow _ _ _) = w8 at hL8 hX8 hT8 hH8 hP8 hQ8 hz8 hmQ ⊢
    have hcT := cellAll hT8.out.blk
    rcases hgC : x.get_ name with ⟨yC, bC⟩
    rcases hgD : x.at_ i with ⟨yD, bD⟩
    go_upto_region 9 with (first
      | ((with_reducible refine vlist_store (cs := (vA yC AlC clC AfC cfC)) (old := zA8) (B := w9.heap.size) (.tmp 12) (.tmp 54) ?o0 ?o1 ?o2 ?o3 ?o4 ?o5 ?o6 (vA_one _ _ _ _ _) ?_); (case o0 => rfl); (case o1 => rfl); (case o2 => rfl); (case o3 => rfl); (case o4 => exact heap_alloc_new w9 _); (case o5 => rfl); (case o6 => rfl))
      | (go_at_call 10; refine (show Calls Tryz.prog 10 _ _ (GivesA _ (yC, bC)) from hgC ▸ getA_any x name _ _ hT8.out.kv ((hP.out.below hL8.out).facts) (by have := hnm.out; omega) (by have := hwt.out; omega) hxi.out).mono ?_; rintro e w9 ⟨csC, SC, rfl, hM, hAp, hb9⟩; obtain ⟨vlC, vfC, rfl, hRl, hRf⟩ := kV_openM hM; obtain ⟨AlC, clC, rfl⟩ := Kd.R_slice hRl; obtain ⟨AfC, cfC, rfl⟩ := Kd.R_slice hRf; clear hRl hRf; rw [show (yC.cells (.slice AlC yC.list.length clC) (.slice AfC yC.fields.length cfC)).toArray = vA yC AlC clC AfC cfC from rfl]; have hbx : BoxA ((w9.alloc (.cells #[.int .i64 0, .bool false, .bool false, .string ⟨#[]⟩, .int .i64 0, .string ⟨#[]⟩, .slice none 0 0, .slice none 0 0] 27)).setRow w9.heap.size (vA yC AlC clC AfC cfC)) w8.heap.size w9.heap.size yC w9.heap.size AlC clC AfC cfC SC ∧ Below w9.heap.size w9 ((w9.alloc (.cells #[.int .i64 0, .bool false, .bool false, .string ⟨#[]⟩, .int .i64 0, .string ⟨#[]⟩, .slice none 0 0, .slice none 0 0] 27)).setRow w9.heap.size (vA yC AlC clC AfC cfC)) := boxA_new hb9.size hM hAp; have hC10 := Aside0.mk hbx.1; have hb10 := hb9.trans (hbx.2.mono hb9.size); have hltC := Aside0.mk hb9.size; have hmC := Aside0.mk hbx.2.size; clear hbx hM hAp; have hL10 := Aside0.mk (hL8.out.trans (hb10.mono hL8.out.size)); have hX10 := Aside0.mk ((hb10.block _ (blk_lt hX8.out)).trans hX8.out); have hT10 := Aside0.mk (hT8.out.below hb10); have hH10 := Aside0.mk (hH8.out.below hb10); have hP10 := Aside0.mk (hP8.out.below hb10); have hQ10 := Aside0.mk (hQ8.out.below hb10); clear hX8 hT8 hH8 hP8 hQ8; have hz10 := Aside0.mk hb10.size; clear hb9 hb10))
    clear hcT
    generalize (World.setRow _ _ _) = w10 at hL10 hX10 hT10 hH10 hP10 hQ10 hC10 hz10 hmC ⊢
    have hcT := cellAll hT10.out.blk
    go_upto_region 10 with (first
      | ((with_reducible refine vlist_store (cs := (vA yD AlD clD AfD cfD)) (old := zA8) (B := w11.heap.size) (.tmp 14) (.tmp 63) ?o0 ?o1 ?o2 ?o3 ?o4 ?o5 ?o6 (vA_one _ _ _ _ _) ?_); (case o0 => rfl); (case o1 => rfl); (case o2 => rfl); (case o3 => rfl); (case o4 => exact heap_alloc_new w11 _); (case o5 => rfl); (case o6 => rfl))
      | (go_at_call 11; refine (show Calls Tryz.prog 11 _ _ (GivesA _ (yD, bD)) from hgD ▸ atA_any x i _ _ hT10.out.kv ((hP.out.below hL10.out).facts) (by have := hwt.out; omega) hxi.out).mono ?_; rintro e w11 ⟨csD, SD, rfl, hM, hAp, hb11⟩; obtain ⟨vlD, vfD, rfl, hRl, hRf⟩ := kV_openM hM; obtain ⟨AlD, clD, rfl⟩ := Kd.R_slice hRl; obtain ⟨AfD, cfD, rfl⟩ := Kd.R_slice hRf; clear hRl hRf; rw [show (yD.cells (.slice AlD yD.list.length clD) (.slice AfD yD.fields.length cfD)).toArray = vA yD AlD clD AfD cfD from rfl]; have hbx : BoxA ((w11.alloc (.cells #[.int .i64 0, .bool false, .bool false, .string ⟨#[]⟩, .int .i64 0, .string ⟨#[]⟩, .slice none 0 0, .slice none 0 0] 27)).setRow w11.heap.size (vA yD AlD clD AfD cfD)) w10.heap.size w11.heap.size yD w11.heap.size AlD clD AfD cfD SD ∧ Below w11.heap.size w11 ((w11.alloc (.cells #[.int .i64 0, .bool false, .bool false, .string ⟨#[]⟩, .int .i64 0, .string ⟨#[]⟩, .slice none 0 0, .slice none 0 0] 27)).setRow w11.heap.size (vA yD AlD clD AfD cfD)) := boxA_new hb11.size hM hAp; have hD12 := Aside0.mk hbx.1; have hb12 := hb11.trans (hbx.2.mono hb11.size); have hltD := Aside0.mk hb11.size; have hmD := Aside0.mk hbx.2.size; clear hbx hM hAp; have hL12 := Aside0.mk (hL10.out.trans (hb12.mono hL10.out.size)); have hX12 := Aside0.mk ((hb12.block _ (blk_lt hX10.out)).trans hX10.out); have hT12 := Aside0.mk (hT10.out.below hb12); have hH12 := Aside0.mk (hH10.out.below hb12); have hP12 := Aside0.mk (hP10.out.below hb12); have hQ12 := Aside0.mk (hQ10.out.below hb12); have hC12 := Aside0.mk (hC10.out.below hb12); clear hX10 hT10 hH10 hP10 hQ10 hC10; have hz12 := Aside0.mk hb12.size; clear hb11 hb12))
    clear hcT
    generalize (World.setRow _ _ _) = w12 at hL12 hX12 hT12 hH12 hP12 hQ12 hC12 hD12 hz12 hmD ⊢
    have hcT := cellAll hT12.out.blk
    have hsC := Aside0.mk (get_small x name hxi.out)
    have hsD := Aside0.mk (at_small x i hxi.out)
    rw [hgC] at hsC
    rw [hgD] at hsD
    replace hgC := Aside0.mk hgC
    replace hgD := Aside0.mk hgD
    go_upto_region 13 with (first
      | (go_at_call 14; refine (turn_any _ _ _ _ _ _ _ _ _ _ hH14.out).mono ?_; rintro e w15 ⟨rfl, hTu⟩; have hL15 := Aside0.mk (turned_below hTu hL14.out (Nat.le_of_lt hta.out)); have hX15 := Aside0.mk ((hTu.out _ (by have := hta.out; omega)).trans hX14.out); have hP15 := Aside0.mk (hP14.out.move (fun k hk _ => hTu.out k (by have := htb.out; have := hz6.out; have := hz8.out; have := hz10.out; omega))); have hQ15 := Aside0.mk (hQ14.out.move (fun k hk _ => hTu.out k (by have := htb.out; have := hz6.out; have := hz8.out; have := hz10.out; omega))); have hC15 := Aside0.mk (hC14.out.move (fun k hk _ => hTu.out k (by have := htb.out; have := hz6.out; have := hz8.out; have := hz10.out; omega))); have hD15 := Aside0.mk (hD14.out.move (fun k hk _ => hTu.out k (by have := htb.out; have := hz6.out; have := hz8.out; have := hz10.out; omega))); clear hX14 hT14 hH14 hP14 hQ14 hC14 hD14 hTu)
      | (go_at_call 13; refine (kept_any _ _ x _ _ _ _ _ _ _ _ _ _ _ _ _ _ hT13.out).mono ?_; rintro e w14 ⟨rfl, hb14⟩; have hL14 := Aside0.mk (hL13.out.trans (hb14.mono hL13.out.size)); have hX14 := Aside0.mk ((hb14.block _ (blk_lt hX13.out)).trans hX13.out); have hT14 := Aside0.mk (hT13.out.below hb14); have hH14 := Aside0.mk (hH13.out.below hb14); have hP14 := Aside0.mk (hP13.out.below hb14); have hQ14 := Aside0.mk (hQ13.out.below hb14); have hC14 := Aside0.mk (hC13.out.below hb14); have hD14 := Aside0.mk (hD13.out.below hb14); clear hX13 hT13 hH13 hP13 hQ13 hC13 hD13; clear hb14)
      | (go_at_call 12; refine (depth_any x _ _ hT12.out.kv ((hP.out.below hL12.out).facts) (by have := hwt.out; omega) hxi.out).mono ?_; rintro e w13 ⟨rfl, hb13⟩; clear hcT; have hL13 := Aside0.mk (hL12.out.trans (hb13.mono hL12.out.size)); have hX13 := Aside0.mk ((hb13.block _ (blk_lt hX12.out)).trans hX12.out); have hT13 := Aside0.mk (hT12.out.below hb13); have hH13 := Aside0.mk (hH12.out.below hb13); have hP13 := Aside0.mk (hP12.out.below hb13); have hQ13 := Aside0.mk (hQ12.out.below hb13); have hC13 := Aside0.mk (hC12.out.below hb13); have hD13 := Aside0.mk (hD12.out.below hb13); clear hX12 hT12 hH12 hP12 hQ12 hC12 hD12; clear hb13))
    go_upto_region 14 with (first
      | ((with_reducible refine vlist_load (cs := (vA x A c B d)) (B := w.heap.size) (.tmp 3) ?o0 ?o1 ?o2 ?o3 ?o4 ?_); (case o0 => rfl); (case o1 => rfl); (case o2 => rfl); (case o3 => exact hX15.out); (case o4 => rfl))
      | ((with_reducible refine vlist_store (cs := (vA yC AlE clE AfE cfE)) (old := zA8) (B := w16.heap.size) (.tmp 18) (.tmp 78) ?o0 ?o1 ?o2 ?o3 ?o4 ?o5 ?o6 (vA_one _ _ _ _ _) ?_); (case o0 => rfl); (case o1 => rfl); (case o2 => rfl); (case o3 => rfl); (case o4 => exact heap_alloc_new w16 _); (case o5 => rfl); (case o6 => rfl))
      | (go_at_call 15; refine (show Calls Tryz.prog 15 #[.agg (vA x A c B d), .string name] _ (Gives _ (yC, bC)) from hgC.out ▸ rget_any x name _ _ (kV.K_below hL15.out hK0.out) (by have := hnm.out; omega) (by have := hwt.out; omega) hxi.out).mono ?_; rintro e w16 ⟨csE, rfl, hM, hb16⟩; obtain ⟨vlE, vfE, rfl, hRl, hRf⟩ := kV_openM hM; obtain ⟨AlE, clE, rfl⟩ := Kd.R_slice hRl; obtain ⟨AfE, cfE, rfl⟩ := Kd.R_slice hRf; clear hRl hRf; rw [show (yC.cells (.slice AlE yC.list.length clE) (.slice AfE yC.fields.length cfE)).toArray = vA yC AlE clE AfE cfE from rfl]; have hbx : BoxK ((w16.alloc (.cells #[.int .i64 0, .bool false, .bool false, .string ⟨#[]⟩, .int .i64 0, .string ⟨#[]⟩, .slice none 0 0, .slice none 0 0] 27)).setRow w16.heap.size (vA yC AlE clE AfE cfE)) yC w16.heap.size AlE clE AfE cfE ∧ Below w16.heap.size w16 ((w16.alloc (.cells #[.int .i64 0, .bool false, .bool false, .string ⟨#[]⟩, .int .i64 0, .string ⟨#[]⟩, .slice none 0 0, .slice none 0 0] 27)).setRow w16.heap.size (vA yC AlE clE AfE cfE)) := boxK_new hM; have hE17 := Aside0.mk hbx.1; have hb17 := hb16.trans (hbx.2.mono hb16.size); clear hbx hM; have hL17 := Aside0.mk (hL15.out.trans (hb17.mono hL15.out.size)); have hX17 := Aside0.mk ((hb17.block _ (blk_lt hX15.out)).trans hX15.out); have hP17 := Aside0.mk (hP15.out.below hb17); have hQ17 := Aside0.mk (hQ15.out.below hb17); have hC17 := Aside0.mk (hC15.out.below hb17); have hD17 := Aside0.mk (hD15.out.below hb17); clear hX15 hP15 hQ15 hC15 hD15; clear hb16 hb17))
    generalize (World.setRow _ _ _) = w17 at hL17 hX17 hP17 hQ17 hC17 hD17 hE17 ⊢
    go_upto_region 15 with (first
      | ((with_reducible refine vlist_load (cs := (vA x A c B d)) (B := w.heap.size) (.tmp 3) ?o0 ?o1 ?o2 ?o3 ?o4 ?_); (case o0 => rfl); (case o1 => rfl); (case o2 => rfl); (case o3 => exact hX17.out); (case o4 => rfl))
      | ((with_reducible refine vlist_store (cs := (vA yD AlF clF AfF cfF)) (old := zA8) (B := w18.heap.size) (.tmp 20) (.tmp 84) ?o0 ?o1 ?o2 ?o3 ?o4 ?o5 ?o6 (vA_one _ _ _ _ _) ?_); (case o0 => rfl); (case o1 => rfl); (case o2 => rfl); (case o3 => rfl); (case o4 => exact heap_alloc_new w18 _); (case o5 => rfl); (case o6 => rfl))
      | (go_at_call 16; refine (show Calls Tryz.prog 16 #[.agg (vA x A c B d), .int .i64 i] _ (Gives _ (yD, bD)) from hgD.out ▸ rat_any x i _ _ (kV.K_below hL17.out hK0.out) (by have := hwt.out; omega) hxi.out).mono ?_; rintro e w18 ⟨csF, rfl, hM, hb18⟩; obtain ⟨vlF, vfF, rfl, hRl, hRf⟩ := kV_openM hM; obtain ⟨AlF, clF, rfl⟩ := Kd.R_slice hRl; obtain ⟨AfF, cfF, rfl⟩ := Kd.R_slice hRf; clear hRl hRf; rw [show (yD.cells (.slice AlF yD.list.length clF) (.slice AfF yD.fields.length cfF)).toArray = vA yD AlF clF AfF cfF from rfl]; have hbx : BoxK ((w18.alloc (.cells #[.int .i64 0, .bool false, .bool false, .string ⟨#[]⟩, .int .i64 0, .string ⟨#[]⟩, .slice none 0 0, .slice none 0 0] 27)).setRow w18.heap.size (vA yD AlF clF AfF cfF)) yD w18.heap.size AlF clF AfF cfF ∧ Below w18.heap.size w18 ((w18.alloc (.cells #[.int .i64 0, .bool false, .bool false, .string ⟨#[]⟩, .int .i64 0, .string ⟨#[]⟩, .slice none 0 0, .slice none 0 0] 27)).setRow w18.heap.size (vA yD AlF clF AfF cfF)) := boxK_new hM; have hF19 := Aside0.mk hbx.1; have hb19 := hb18.trans (hbx.2.mono hb18.size); clear hbx hM; have hL19 := Aside0.mk (hL17.out.trans (hb19.mono hL17.out.size)); have hX19 := Aside0.mk ((hb19.block _ (blk_lt hX17.out)).trans hX17.out); have hP19 := Aside0.mk (hP17.out.below hb19); have hQ19 := Aside0.mk (hQ17.out.below hb19); have hC19 := Aside0.mk (hC17.out.below hb19); have hD19 := Aside0.mk (hD17.out.below hb19); have hE19 := Aside0.mk (hE17.out.below hb19); clear hX17 hP17 hQ17 hC17 hD17 hE17; clear hb18 hb19))
    generalize (World.setRow _ _ _) = w19 at hL19 hX19 hP19 hQ19 hC19 hD19 hE19 hF19 ⊢
    have hSof : ∀ W', Below w19.heap.size w19 W' → W'.cell? ⟨w5.heap.size, 0, none⟩ = some (.int .i64 x.norm.kind) ∧ W'.cell? ⟨w5.heap.size, 1, none⟩ = some (.bool x.norm.truth) ∧ W'.cell? ⟨w5.heap.size, 2, none⟩ = some (.bool x.norm.neg) ∧ W'.cell? ⟨w5.heap.size, 3, none⟩ = some (.string x.norm.digits) ∧ W'.cell? ⟨w5.heap.size, 4, none⟩ = some (.int .i64 x.norm.exp) ∧ W'.cell? ⟨w5.heap.size, 5, none⟩ = some (.string x.norm.text) ∧ W'.cell? ⟨w5.heap.size, 6, none⟩ = some (.slice AlP x.norm.list.length clP) ∧ W'.cell? ⟨w5.heap.size, 7, none⟩ = some (.slice AfP x.norm.fields.length cfP) ∧ W'.cell? ⟨w.heap.size, 0, none⟩ = some (.int .i64 x.kind) ∧ W'.cell? ⟨w.heap.size, 1, none⟩ = some (.bool x.truth) ∧ W'.cell? ⟨w.heap.size, 2, none⟩ = some (.bool x.neg) ∧ W'.cell? ⟨w.heap.size, 3, none⟩ = some (.string x.digits) ∧ W'.cell? ⟨w.heap.size, 4, none⟩ = some (.int .i64 x.exp) ∧ W'.cell? ⟨w.heap.size, 5, none⟩ = some (.string x.text) ∧ W'.cell? ⟨w.heap.size, 6, none⟩ = some (.slice A x.list.length c) ∧ W'.cell? ⟨w.heap.size, 7, none⟩ = some (.slice B x.fields.length d) := fun W' hb => (by have kR := cellAll ((hP19.out.below hb).blk); have kX := cellAll ((hb.block _ (blk_lt hX19.out)).trans hX19.out); exact ⟨kR 0, kR 1, kR 2, kR 3, kR 4, kR 5, kR 6, kR 7, kX 0, kX 1, kX 2, kX 3, kX 4, kX 5, kX 6, kX 7⟩)
    have hS0 := hSof w19 (Below.refl _ _)
    have hbd := (Below.refl w19.heap.size w19).drew
    have hS1 := hSof _ hbd
    replace hbd := Aside0.mk hbd
    go_region_held3 (fun W' => W'.cell? ⟨w5.heap.size, 0, none⟩ = some (.int .i64 x.norm.kind) ∧ W'.cell? ⟨w5.heap.size, 1, none⟩ = some (.bool x.norm.truth) ∧ W'.cell? ⟨w5.heap.size, 2, none⟩ = some (.bool x.norm.neg) ∧ W'.cell? ⟨w5.heap.size, 3, none⟩ = some (.string x.norm.digits) ∧ W'.cell? ⟨w5.heap.size, 4, none⟩ = some (.int .i64 x.norm.exp) ∧ W'.cell? ⟨w5.heap.size, 5, none⟩ = some (.string x.norm.text) ∧ W'.cell? ⟨w5.heap.size, 6, none⟩ = some (.slice AlP x.norm.list.length clP) ∧ W'.cell? ⟨w5.heap.size, 7, none⟩ = some (.slice AfP x.norm.fields.length cfP) ∧ W'.cell? ⟨w.heap.size, 0, none⟩ = some (.int .i64 x.kind) ∧ W'.cell? ⟨w.heap.size, 1, none⟩ = some (.bool x.truth) ∧ W'.cell? ⟨w.heap.size, 2, none⟩ = some (.bool x.neg) ∧ W'.cell? ⟨w.heap.size, 3, none⟩ = some (.string x.digits) ∧ W'.cell? ⟨w.heap.size, 4, none⟩ = some (.int .i64 x.exp) ∧ W'.cell? ⟨w.heap.size, 5, none⟩ = some (.string x.text) ∧ W'.cell? ⟨w.heap.size, 6, none⟩ = some (.slice A x.list.length c) ∧ W'.cell? ⟨w.heap.size, 7, none⟩ = some (.slice B x.fields.length d)) (first | (with_reducible exact hS0) | (with_reducible exact hS1) | (with_reducible exact hS2) | (with_reducible exact hS3))
      (first
        | (go_at_call 17; refine (like_same x.norm _ [.int .i64 x.norm.kind, .bool x.norm.truth, .bool x.norm.neg, .string x.norm.digits, .int .i64 x.norm.exp, .string x.norm.text, .slice AlP x.norm.list.length clP, .slice AfP x.norm.fields.length cfP] [.int .i64 x.norm.kind, .bool x.norm.truth, .bool x.norm.neg, .string x.norm.digits, .int .i64 x.norm.exp, .string x.norm.text, .slice AlN x.norm.list.length clN, .slice AfN x.norm.fields.length cfN] (hP20.out.kv) hN20.out).mono ?_; rintro e w21 ⟨rfl, hb9⟩; have hb21 := Aside0.mk (hb20.out.trans (hb9.mono hb20.out.size)); have hS3 := hSof _ hb21.out; clear hb9)
        | (go_at_call 18; refine (rnorm_any x _ [.int .i64 x.kind, .bool x.truth, .bool x.neg, .string x.digits, .int .i64 x.exp, .string x.text, .slice A x.list.length c, .slice B x.fields.length d] (kV.K_below (hL19.out.trans (hbd.out.mono hL19.out.size)) hK0.out) (by have := hwt.out; omega) hxi.out).mono ?_; rintro e w20 ⟨csN, rfl, hM, hb9⟩; obtain ⟨vlN, vfN, rfl, hRl, hRf⟩ := kV_openM hM; obtain ⟨AlN, clN, rfl⟩ := Kd.R_slice hRl; obtain ⟨AfN, cfN, rfl⟩ := Kd.R_slice hRf; clear hRl hRf; have hN20 := Aside0.mk (kV.K_of_M hM); unfold JV.cells at hN20 ⊢; have hb20 := Aside0.mk (hbd.out.trans hb9); have hP20 := Aside0.mk (hP19.out.below hb20.out); have hS2 := hSof _ hb20.out; clear hM hb9))
    clear hS0 hS1 hS2 hS3 hSof hbd hN20 hP20 hb20
    have hL21 := Aside0.mk (hL19.out.trans (hb21.out.mono hL19.out.size))
    have hX21 := Aside0.mk ((hb21.out.block _ (blk_lt hX19.out)).trans hX19.out)
    have hP21 := Aside0.mk (hP19.out.below hb21.out)
    have hQ21 := Aside0.mk (hQ19.out.below hb21.out)
    have hC21 := Aside0.mk (hC19.out.below hb21.out)
    have hD21 := Aside0.mk (hD19.out.below hb21.out)
    have hE21 := Aside0.mk (hE19.out.below hb21.out)
    have hF21 := Aside0.mk (hF19.out.below hb21.out)
    clear hX19 hP19 hQ19 hC19 hD19 hE19 hF19
    clear hb21
    go_wp2_with fail
    have hSof : ∀ W', Below w21.heap.size w21 W' → W'.cell? ⟨w7.heap.size, 0, none⟩ = some (.int .i64 x.norm.kind) ∧ W'.cell? ⟨w7.heap.size, 1, none⟩ = some (.bool x.norm.truth) ∧ W'.cell? ⟨w7.heap.size, 2, none⟩ = some (.bool x.norm.neg) ∧ W'.cell? ⟨w7.heap.size, 3, none⟩ = some (.string x.norm.digits) ∧ W'.cell? ⟨w7.heap.size, 4, none⟩ = some (.int .i64 x.norm.exp) ∧ W'.cell? ⟨w7.heap.size, 5, none⟩ = some (.string x.norm.text) ∧ W'.cell? ⟨w7.heap.size, 6, none⟩ = some (.slice AlQ x.norm.list.length clQ) ∧ W'.cell? ⟨w7.heap.size, 7, none⟩ = some (.slice AfQ x.norm.fields.length cfQ) ∧ W'.cell? ⟨w.heap.size, 0, none⟩ = some (.int .i64 x.kind) ∧ W'.cell? ⟨w.heap.size, 1, none⟩ = some (.bool x.truth) ∧ W'.cell? ⟨w.heap.size, 2, none⟩ = some (.bool x.neg) ∧ W'.cell? ⟨w.heap.size, 3, none⟩ = some (.string x.digits) ∧ W'.cell? ⟨w.heap.size, 4, none⟩ = some (.int .i64 x.exp) ∧ W'.cell? ⟨w.heap.size, 5, none⟩ = some (.string x.text) ∧ W'.cell? ⟨w.heap.size, 6, none⟩ = some (.slice A x.list.length c) ∧ W'.cell? ⟨w.heap.size, 7, none⟩ = some (.slice B x.fields.length d) := fun W' hb => (by have kR := cellAll ((hQ21.out.below hb).blk); have kX := cellAll ((hb.block _ (blk_lt hX21.out)).trans hX21.out); exact ⟨kR 0, kR 1, kR 2, kR 3, kR 4, kR 5, kR 6, kR 7, kX 0, kX 1, kX 2, kX 3, kX 4, kX 5, kX 6, kX 7⟩)
    have hS0 := hSof w21 (Below.refl _ _)
    have hbd := (Below.refl w21.heap.size w21).drew
    have hS1 := hSof _ hbd
    replace hbd := Aside0.mk hbd
    go_region_held3 (fun W' => W'.cell? ⟨w7.heap.size, 0, none⟩ = some (.int .i64 x.norm.kind) ∧ W'.cell? ⟨w7.heap.size, 1, none⟩ = some (.bool x.norm.truth) ∧ W'.cell? ⟨w7.heap.size, 2, none⟩ = some (.bool x.norm.neg) ∧ W'.cell? ⟨w7.heap.size, 3, none⟩ = some (.string x.norm.digits) ∧ W'.cell? ⟨w7.heap.size, 4, none⟩ = some (.int .i64 x.norm.exp) ∧ W'.cell? ⟨w7.heap.size, 5, none⟩ = some (.string x.norm.text) ∧ W'.cell? ⟨w7.heap.size, 6, none⟩ = some (.slice AlQ x.norm.list.length clQ) ∧ W'.cell? ⟨w7.heap.size, 7, none⟩ = some (.slice AfQ x.norm.fields.length cfQ) ∧ W'.cell? ⟨w.heap.size, 0, none⟩ = some (.int .i64 x.kind) ∧ W'.cell? ⟨w.heap.size, 1, none⟩ = some (.bool x.truth) ∧ W'.cell? ⟨w.heap.size, 2, none⟩ = some (.bool x.neg) ∧ W'.cell? ⟨w.heap.size, 3, none⟩ = some (.string x.digits) ∧ W'.cell? ⟨w.heap.size, 4, none⟩ = some (.int .i64 x.exp) ∧ W'.cell? ⟨w.heap.size, 5, none⟩ = some (.string x.text) ∧ W'.cell? ⟨w.heap.size, 6, none⟩ = some (.slice A x.list.length c) ∧ W'.cell? ⟨w.heap.size, 7, none⟩ = some (.slice B x.fields.length d)) (first | (with_reducible exact hS0) | (with_reducible exact hS1) | (with_reducible exact hS2) | (with_reducible exact hS3))
      (first
        | (go_at_call 17; refine (like_same x.norm _ [.int .i64 x.norm.kind, .bool x.norm.truth, .bool x.norm.neg, .string x.norm.digits, .int .i64 x.norm.exp, .string x.norm.text, .slice AlQ x.norm.list.length clQ, .slice AfQ x.norm.fields.length cfQ] [.int .i64 x.norm.kind, .bool x.norm.truth, .bool x.norm.neg, .string x.norm.digits, .int .i64 x.norm.exp, .string x.norm.text, .slice AlN x.norm.list.length clN, .slice AfN x.norm.fields.length cfN] (hQ22.out.kv) hN22.out).mono ?_; rintro e w23 ⟨rfl, hb9⟩; have hb23 := Aside0.mk (hb22.out.trans (hb9.mono hb22.out.size)); have hS3 := hSof _ hb23.out; clear hb9)
        | (go_at_call 18; refine (rnorm_any x _ [.int .i64 x.kind, .bool x.truth, .bool x.neg, .string x.digits, .int .i64 x.exp, .string x.text, .slice A x.list.length c, .slice B x.fields.length d] (kV.K_below (hL21.out.trans (hbd.out.mono hL21.out.size)) hK0.out) (by have := hwt.out; omega) hxi.out).mono ?_; rintro e w22 ⟨csN, rfl, hM, hb9⟩; obtain ⟨vlN, vfN, rfl, hRl, hRf⟩ := kV_openM hM; obtain ⟨AlN, clN, rfl⟩ := Kd.R_slice hRl; obtain ⟨AfN, cfN, rfl⟩ := Kd.R_slice hRf; clear hRl hRf; have hN22 := Aside0.mk (kV.K_of_M hM); unfold JV.cells at hN22 ⊢; have hb22 := Aside0.mk (hbd.out.trans hb9); have hQ22 := Aside0.mk (hQ21.out.below hb22.out); have hS2 := hSof _ hb22.out; clear hM hb9))
    clear hS0 hS1 hS2 hS3 hSof hbd hN22 hQ22 hb22
    have hL23 := Aside0.mk (hL21.out.trans (hb23.out.mono hL21.out.size))
    have hX23 := Aside0.mk ((hb23.out.block _ (blk_lt hX21.out)).trans hX21.out)
    have hP23 := Aside0.mk (hP21.out.below hb23.out)
    have hQ23 := Aside0.mk (hQ21.out.below hb23.out)
    have hC23 := Aside0.mk (hC21.out.below hb23.out)
    have hD23 := Aside0.mk (hD21.out.below hb23.out)
    have hE23 := Aside0.mk (hE21.out.below hb23.out)
    have hF23 := Aside0.mk (hF21.out.below hb23.out)
    clear hX21 hP21 hQ21 hC21 hD21 hE21 hF21
    clear hb23
    go_wp2_with (first
      | ((with_reducible refine vlist_load (cs := (vA yC AlC clC AfC cfC)) (B := w9.heap.size) (.tmp 12) ?o0 ?o1 ?o2 ?o3 ?o4 ?_); (case o0 => rfl); (case o1 => rfl); (case o2 => rfl); (case o3 => exact hC23.out.blk); (case o4 => rfl))
      | ((with_reducible refine vlist_load (cs := (vA yC AlE clE AfE cfE)) (B := w16.heap.size) (.tmp 18) ?o0 ?o1 ?o2 ?o3 ?o4 ?_); (case o0 => rfl); (case o1 => rfl); (case o2 => rfl); (case o3 => exact hE23.out.blk); (case o4 => rfl))
      | ((with_reducible refine vlist_load (cs := (vA yD AlD clD AfD cfD)) (B := w11.heap.size) (.tmp 14) ?o0 ?o1 ?o2 ?o3 ?o4 ?_); (case o0 => rfl); (case o1 => rfl); (case o2 => rfl); (case o3 => exact hD24.out.blk); (case o4 => rfl))
      | ((with_reducible refine vlist_load (cs := (vA yD AlF clF AfF cfF)) (B := w18.heap.size) (.tmp 20) ?o0 ?o1 ?o2 ?o3 ?o4 ?_); (case o0 => rfl); (case o1 => rfl); (case o2 => rfl); (case o3 => exact hF24.out.blk); (case o4 => rfl))
      | ((with_reducible refine vlist_load_want (cs := (vA x A c B d)) (B := w.heap.size) (.tmp 3) ?o0 ?o1 ?o2 ?o3 ?o4 ?_); (case o0 => rfl); (case o1 => rfl); (case o2 => rfl); (case o3 => exact hX25.out); (case o4 => rfl))
      | (go_at_call 20; refine cZ.out.mono ?_; clear cZ; rintro e w27 ⟨rfl, hb27⟩; have hL27 := Aside0.mk (hL26.out.trans hb27); clear hb27)
      | (go_at_call 19; refine (rdepth_any x _ _ (kV.K_below hL25.out hK0.out) (by have := hwt.out; omega) (by have := hwt.out; have := hwN.out; omega) hxi.out).mono ?_; rintro e w26 ⟨rfl, hb26⟩; have hL26 := Aside0.mk (hL25.out.trans (hb26.mono hL25.out.size)); have hX26 := Aside0.mk ((hb26.block _ (blk_lt hX25.out)).trans hX25.out); have hP26 := Aside0.mk (hP25.out.below hb26); have hQ26 := Aside0.mk (hQ25.out.below hb26); have hC26 := Aside0.mk (hC25.out.below hb26); have hD26 := Aside0.mk (hD25.out.below hb26); clear hX25 hP25 hQ25 hC25 hD25; clear hb26; have hcP : ∀ k, w26.cell? ⟨w5.heap.size, k, none⟩ = #[.int .i64 x.norm.kind, .bool x.norm.truth, .bool x.norm.neg, .string x.norm.digits, .int .i64 x.norm.exp, .string x.norm.text, .slice AlP x.norm.list.length clP, .slice AfP x.norm.fields.length cfP][k]? := cellAll hP26.out.blk; have hcQ : ∀ k, w26.cell? ⟨w7.heap.size, k, none⟩ = #[.int .i64 x.norm.kind, .bool x.norm.truth, .bool x.norm.neg, .string x.norm.digits, .int .i64 x.norm.exp, .string x.norm.text, .slice AlQ x.norm.list.length clQ, .slice AfQ x.norm.fields.length cfQ][k]? := cellAll hQ26.out.blk; have hcC : ∀ k, w26.cell? ⟨w9.heap.size, k, none⟩ = #[.int .i64 yC.kind, .bool yC.truth, .bool yC.neg, .string yC.digits, .int .i64 yC.exp, .string yC.text, .slice AlC yC.list.length clC, .slice AfC yC.fields.length cfC][k]? := cellAll hC26.out.blk; have hcD : ∀ k, w26.cell? ⟨w11.heap.size, k, none⟩ = #[.int .i64 yD.kind, .bool yD.truth, .bool yD.neg, .string yD.digits, .int .i64 yD.exp, .string yD.text, .slice AlD yD.list.length clD, .slice AfD yD.fields.length cfD][k]? := cellAll hD26.out.blk; have cZ : Calls Tryz.prog 20 #[.slice (some ⟨w26.heap.size, 0, none⟩) 4 4] (w26.alloc (.cells #[.int .i64 x.norm.kind, .bool x.norm.truth, .bool x.norm.neg, .string x.norm.digits, .int .i64 x.norm.exp, .string x.norm.text, .slice AlP x.norm.list.length clP, .slice AfP x.norm.fields.length cfP, .int .i64 x.norm.kind, .bool x.norm.truth, .bool x.norm.neg, .string x.norm.digits, .int .i64 x.norm.exp, .string x.norm.text, .slice AlQ x.norm.list.length clQ, .slice AfQ x.norm.fields.length cfQ, .int .i64 yC.kind, .bool yC.truth, .bool yC.neg, .string yC.digits, .int .i64 yC.exp, .string yC.text, .slice AlC yC.list.length clC, .slice AfC yC.fields.length cfC, .int .i64 yD.kind, .bool yD.truth, .bool yD.neg, .string yD.digits, .int .i64 yD.exp, .string yD.text, .slice AlD yD.list.length clD, .slice AfD yD.fields.length cfD] 27)) (fun e w' => e = .returned (.bool true) ∧ Below w.heap.size w26 w') := apart4 (base := w.heap.size) hP26.out hQ26.out hC26.out hD26.out (hL4.out.size) hmP.out hmQ.out hmC.out hltP.out hltQ.out hltC.out hL26.out.size (by have := hwt.out; have := hwN.out; have q1 : yC.wt ≤ 4 * x.wt := hsC.out.1; have q2 : yD.wt ≤ 4 * x.wt := hsD.out.1; omega) ⟨hiN.out, hiN.out, hsC.out.2, hsD.out.2⟩; replace cZ := Aside0.mk cZ)
      | (go_at_call 17; refine (like_same yD _ _ _ hD24.out.kv hF24.out.kv).mono ?_; rintro e w25 ⟨rfl, hb25⟩; have hL25 := Aside0.mk (hL24.out.trans (hb25.mono hL24.out.size)); have hX25 := Aside0.mk ((hb25.block _ (blk_lt hX24.out)).trans hX24.out); have hP25 := Aside0.mk (hP24.out.below hb25); have hQ25 := Aside0.mk (hQ24.out.below hb25); have hC25 := Aside0.mk (hC24.out.below hb25); have hD25 := Aside0.mk (hD24.out.below hb25); have hE25 := Aside0.mk (hE24.out.below hb25); have hF25 := Aside0.mk (hF24.out.below hb25); clear hX24 hP24 hQ24 hC24 hD24 hE24 hF24; clear hb25)
      | (go_at_call 17; refine (like_same yC _ _ _ hC23.out.kv hE23.out.kv).mono ?_; rintro e w24 ⟨rfl, hb24⟩; have hL24 := Aside0.mk (hL23.out.trans (hb24.mono hL23.out.size)); have hX24 := Aside0.mk ((hb24.block _ (blk_lt hX23.out)).trans hX23.out); have hP24 := Aside0.mk (hP23.out.below hb24); have hQ24 := Aside0.mk (hQ23.out.below hb24); have hC24 := Aside0.mk (hC23.out.below hb24); have hD24 := Aside0.mk (hD23.out.below hb24); have hE24 := Aside0.mk (hE23.out.below hb24); have hF24 := Aside0.mk (hF23.out.below hb24); clear hX23 hP23 hQ23 hC23 hD23 hE23 hF23; clear hb24))
    go_ret
    exact ⟨rfl, hL27.out⟩
end Go.Proofs.YtkdeleafgailhaaGreatDoor
end
