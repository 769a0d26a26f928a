/- voyagelaw13.RecordOne. voyagelaw13.RecordBack: an event that Encode takes. -/
import Derived.Test.YtkdeleafgailhaaGreatDoorH31
section
set_option linter.unusedVariables false
set_option linter.unusedSimpArgs false
namespace Go.Proofs.YtkdeleafgailhaaGreatDoor
open Go Go.RowKit Go.Proofs.YtkdeleafgailhaaGreatDoorW.PrintWords

section
variable {ops : Array Oper} {rest : List Oper} {o : Oper} {a : Act} {Q : Exit → Act → World → Prop} {w : World}
theorem list_load_want {cs : Array Value} {B : Nat} (x : Operand) (hw : Region.wanted o (yielded ops a.tmps) = true) (ho : o.op = .load 48 x) (hx : a.eval x = .pointer (some ⟨B, 0, none⟩)) (hb : w.heap[B]? = some (.cells cs 48 (0, 0))) (hcs : cs.size = 17) (h : wpList Tryz.prog ops Q rest (a.put o.dst (.agg cs)) w) : wpList Tryz.prog ops Q (o :: rest) a w := BigFrame.wpList_want hw fun _ hK => op_load x ho hx hb hcs (hK _ _ h)
end
set_option maxRecDepth 100000 in
set_option maxHeartbeats 32000000 in
theorem recordOne_none (E : ErrV) (a : Addr) (e : Evn) (w : World) (cs : List Value) (bs : List UInt8) (A0 : Option Addr) (c0 : Nat) (hR0 : ReadsInt w .u8 A0 bs.length (bint bs)) (hc0 : bs.length ≤ c0) (hbl : bs.length ≤ 140737488355328) (hK : EvK w e cs) (hP : REnv E a w) (hf : e.fits) (hd : dec bs = none) :
    Calls Tryz.prog 5 #[.slice A0 bs.length c0, .agg cs.toArray] w fun en w' => en = .returned (.bool true) ∧ Below w.heap.size w w' := by
  obtain ⟨PA, pc, A, lc, B, ld, rfl, hR, hV⟩ := hK.open2
  simp only [Array.toArray_toList]
  have hb0 := (Below.refl w.heap.size w).alloc (Nat.le_refl _) (.cells (evA e PA pc A lc B ld) 48)
  have hn0 := heap_alloc_new w (.cells (evA e PA pc A lc B ld) 48)
  have hc1 := cellAll hn0
  have cB := beyond_any e.out.value _ _ (kV.K_below hb0 hV) hf.value
  have cD := fun (W : World) (hb : Below w.heap.size w W) => dec_none_any E a bs hd A0 c0 W (hR0.below hb) hc0 (hP.below hb) hbl
  unfold evA at hb0 hn0 hc1 cB ⊢
  unfold valL JV.cells at cB
  have cA := fun (W : World) (hb : Below w.heap.size w W) => awake13_any E a W (hP.below hb)
  have hev := fun (W : World) (hb : Below w.heap.size w W) => (hP.below hb).cell
  have heq := eq_err a
  have hF := fun (W : World) (hb : Below w.heap.size w W) => (hP.below hb).env.facts
  generalize hn : bs.length = n at *
  replace hb0 := Aside0.mk hb0
  replace hn0 := Aside0.mk hn0
  replace cB := Aside0.mk cB
  replace cA := Aside0.mk cA
  replace hev := Aside0.mk hev
  replace hF := Aside0.mk hF
  replace hn := Aside0.mk hn
  replace hR0 := Aside0.mk hR0
  replace hc0 := Aside0.mk hc0
  have hok := Aside0.mk (EvOK.of hf)
  clear hbl
  replace cD := Aside0.mk cD
  clear hK hP hf hR hV hd
  go_enter Tryz.func5, Tryz.ntmps5
  go_wp2_with (first
    | (go_at_call 21; refine cB.out.mono ?_; clear cB; rintro en w1 ⟨bb, rfl, hbb, hb1⟩; have hL1 := Aside0.mk (hb0.out.trans (hb1.mono hb0.out.size)); have hn1 := Aside0.mk ((hb1.block _ (blk_lt hn0.out)).trans hn0.out); replace hbb := Aside0.mk hbb; clear hn0 hc1 hb0)
    | (go_at_call 22; refine (cA.out w1 hL1.out).mono ?_; clear cA; rintro en w2 ⟨rfl, hb2⟩; have hL2 := Aside0.mk (hL1.out.trans (hb2.mono hL1.out.size)); have hn2 := Aside0.mk ((hb2.block _ (blk_lt hn1.out)).trans hn1.out); clear hn1)
    | (go_at_call 24; refine (cD.out w2 hL2.out).mono ?_; clear cD; rintro en w3 ⟨hen, hb3⟩; unfold ev at hen; subst hen; have hba3 := low_row (cs := zeroA) ((Below.refl w3.heap.size w3).alloc (Nat.le_refl _) (.cells #[.int .i64 0, .slice none 0 0, .int .i64 0, .bool false, .int .i64 0, .bool false, .bool false, .string ⟨#[]⟩, .int .i64 0, .string ⟨#[]⟩, .slice none 0 0, .slice none 0 0, .string ⟨#[]⟩, .string ⟨#[]⟩, .string ⟨#[]⟩, .string ⟨#[]⟩, .int .i64 0] 48)) (Nat.le_refl _); have hxN3 := Aside0.mk (setRow_heap (w3.alloc (.cells #[.int .i64 0, .slice none 0 0, .int .i64 0, .bool false, .int .i64 0, .bool false, .bool false, .string ⟨#[]⟩, .int .i64 0, .string ⟨#[]⟩, .slice none 0 0, .slice none 0 0, .string ⟨#[]⟩, .string ⟨#[]⟩, .string ⟨#[]⟩, .string ⟨#[]⟩, .int .i64 0] 48)) w3.heap.size _ (zeroA) _ _ (heap_alloc_new w3 _)); have hL4 := Aside0.mk (hL2.out.trans ((hb3.trans (hba3.mono hb3.size)).mono hL2.out.size)); have hv4 := hev.out _ hL4.out; clear hba3)
    | ((with_reducible refine list_store (cs := zeroA) (old := zeroA) (B := w3.heap.size) (.tmp 6) (.tmp 22) ?o0 ?o1 ?o2 ?o3 ?o4 ?o5 ?o6 (zero_one) ?_); (case o0 => rfl); (case o1 => rfl); (case o2 => rfl); (case o3 => rfl); (case o4 => exact heap_alloc_new w3 _); (case o5 => rfl); (case o6 => rfl)))
  · go_ret
    exact ⟨rfl, hL1.out⟩
  · go_ret
    exact ⟨rfl, hL4.out⟩
set_option maxRecDepth 100000 in
set_option maxHeartbeats 32000000 in
theorem recordOne_no (E : ErrV) (a : Addr) (e : Evn) (w : World) (cs : List Value) (bs : List UInt8) (A0 : Option Addr) (c0 : Nat) (hR0 : ReadsInt w .u8 A0 bs.length (bint bs)) (hc0 : bs.length ≤ c0) (hbl : bs.length ≤ 140737488355328) (hK : EvK w e cs) (hP : REnv E a w) (hf : e.fits) (d : Evn) (hd : dec bs = some d) (he : ¬ encs e) :
    Calls Tryz.prog 5 #[.slice A0 bs.length c0, .agg cs.toArray] w fun en w' => en = .returned (.bool true) ∧ Below w.heap.size w w' := by
  obtain ⟨PA, pc, A, lc, B, ld, rfl, hR, hV⟩ := hK.open2
  simp only [Array.toArray_toList]
  have hb0 := (Below.refl w.heap.size w).alloc (Nat.le_refl _) (.cells (evA e PA pc A lc B ld) 48)
  have hn0 := heap_alloc_new w (.cells (evA e PA pc A lc B ld) 48)
  have hc1 := cellAll hn0
  have cB := beyond_any e.out.value _ _ (kV.K_below hb0 hV) hf.value
  obtain ⟨hed, hbd⟩ := dec_enc bs d hd
  have cD := fun (W : World) (hb : Below w.heap.size w W) (A0 : Option Addr) (c0 : Nat) (hR : ReadsInt W .u8 A0 bs.length (bint bs)) (hc : bs.length ≤ c0) => dec_some E a bs d hd A0 c0 W hR hc (hP.below hb) hbl
  have cF := fun (W : World) (hb : Below w.heap.size w W) (cs : List Value) (hK : EvK W d cs) (hok : EvOK d) => enc_yes E a d hed W cs hK (hP.below hb) hok
  rw [hbd] at cF
  have cE := fun (W : World) (hb : Below w.heap.size w W) (hok : EvOK e) => enc_no E a e he W _ (hK.below hb) (hP.below hb) hok
  simp only [Array.toArray_toList] at cE
  unfold evA at hb0 hn0 hc1 cB cE ⊢
  unfold valL JV.cells at cB
  have cA := fun (W : World) (hb : Below w.heap.size w W) => awake13_any E a W (hP.below hb)
  have hev := fun (W : World) (hb : Below w.heap.size w W) => (hP.below hb).cell
  have heq := eq_err a
  have hF := fun (W : World) (hb : Below w.heap.size w W) => (hP.below hb).env.facts
  generalize hn : bs.length = n at *
  replace hb0 := Aside0.mk hb0
  replace hn0 := Aside0.mk hn0
  replace cB := Aside0.mk cB
  replace cA := Aside0.mk cA
  replace hev := Aside0.mk hev
  replace hF := Aside0.mk hF
  replace hn := Aside0.mk hn
  replace hR0 := Aside0.mk hR0
  replace hc0 := Aside0.mk hc0
  have hok := Aside0.mk (EvOK.of hf)
  clear hbl
  replace cD := Aside0.mk cD
  replace cF := Aside0.mk cF
  replace cE := Aside0.mk cE
  clear hK hP hf hR hV hd hed hbd
  go_enter Tryz.func5, Tryz.ntmps5
  go_wp2_with (first
    | (go_at_call 21; refine cB.out.mono ?_; clear cB; rintro en w1 ⟨bb, rfl, hbb, hb1⟩; have hL1 := Aside0.mk (hb0.out.trans (hb1.mono hb0.out.size)); have hn1 := Aside0.mk ((hb1.block _ (blk_lt hn0.out)).trans hn0.out); replace hbb := Aside0.mk hbb; clear hn0 hc1 hb0)
    | (go_at_call 22; refine (cA.out w1 hL1.out).mono ?_; clear cA; rintro en w2 ⟨rfl, hb2⟩; have hL2 := Aside0.mk (hL1.out.trans (hb2.mono hL1.out.size)); have hn2 := Aside0.mk ((hb2.block _ (blk_lt hn1.out)).trans hn1.out); clear hn1)
    | (go_at_call 24; refine (cD.out w2 hL2.out A0 c0 (hR0.out.below hL2.out) hc0.out).mono ?_; have kD := cD; clear cD; rintro en w3 ⟨PA1, pc1, A1', lc1, B1, ld1, rfl, hK3, hok3, hb3⟩; have hba3 := low_row (cs := evA d PA1 pc1 A1' lc1 B1 ld1) ((Below.refl w3.heap.size w3).alloc (Nat.le_refl _) (.cells #[.int .i64 0, .slice none 0 0, .int .i64 0, .bool false, .int .i64 0, .bool false, .bool false, .string ⟨#[]⟩, .int .i64 0, .string ⟨#[]⟩, .slice none 0 0, .slice none 0 0, .string ⟨#[]⟩, .string ⟨#[]⟩, .string ⟨#[]⟩, .string ⟨#[]⟩, .int .i64 0] 48)) (Nat.le_refl _); have hxN3 := Aside0.mk (setRow_heap (w3.alloc (.cells #[.int .i64 0, .slice none 0 0, .int .i64 0, .bool false, .int .i64 0, .bool false, .bool false, .string ⟨#[]⟩, .int .i64 0, .string ⟨#[]⟩, .slice none 0 0, .slice none 0 0, .string ⟨#[]⟩, .string ⟨#[]⟩, .string ⟨#[]⟩, .string ⟨#[]⟩, .int .i64 0] 48)) w3.heap.size _ (evA d PA1 pc1 A1' lc1 B1 ld1) _ _ (heap_alloc_new w3 _)); have hL4 := Aside0.mk (hL2.out.trans ((hb3.trans (hba3.mono hb3.size)).mono hL2.out.size)); have hn4 := Aside0.mk ((hba3.block _ (Nat.lt_of_lt_of_le (blk_lt hn2.out) hb3.size)).trans ((hb3.block _ (blk_lt hn2.out)).trans hn2.out)); have hK4 := Aside0.mk (EvK.below hK3 hba3); replace hok3 := Aside0.mk hok3; clear hba3 hK3 hn2)
    | ((with_reducible refine list_store (cs := evA d PA1 pc1 A1' lc1 B1 ld1) (old := zeroA) (B := w3.heap.size) (.tmp 6) (.tmp 22) ?o0 ?o1 ?o2 ?o3 ?o4 ?o5 ?o6 (evA_one _ _ _ _ _ _ _) ?_); (case o0 => rfl); (case o1 => rfl); (case o2 => rfl); (case o3 => rfl); (case o4 => exact heap_alloc_new w3 _); (case o5 => rfl); (case o6 => rfl))
    | ((with_reducible refine list_load (cs := evA d PA1 pc1 A1' lc1 B1 ld1) (B := w3.heap.size) (.tmp 6) ?o0 ?o1 ?o2 ?o3 ?o4 ?_); (case o0 => rfl); (case o1 => rfl); (case o2 => rfl); (case o3 => exact hxN3.out); (case o4 => rfl))
    | (go_at_call 23; refine (cF.out _ hL4.out _ hK4.out hok3.out).mono ?_; clear cF; rintro en w5 ⟨A2, c2, rfl, hR2, hc2, hb5⟩; have hL5 := Aside0.mk (hL4.out.trans (hb5.mono hL4.out.size)); have hcv1 := conv_bytes (c := c2) hR2; have hcv2 := conv_bytes (c := c0) (hR0.out.below hL5.out); have hn5 := Aside0.mk ((hb5.block _ (blk_lt hn4.out)).trans hn4.out); have hx5 := Aside0.mk ((hb5.block _ (blk_lt hxN3.out)).trans hxN3.out); have hK5 := Aside0.mk (EvK.below hK4.out hb5); replace hc2 := Aside0.mk hc2; clear hn4 hxN3 hK4 hR2)
    | ((with_reducible refine list_load (cs := #[.int .i64 e.kind, .slice PA e.place.length pc, .int .i64 e.time, .bool e.out.fine, .int .i64 e.out.value.kind, .bool e.out.value.truth, .bool e.out.value.neg, .string e.out.value.digits, .int .i64 e.out.value.exp, .string e.out.value.text, .slice A e.out.value.list.length lc, .slice B e.out.value.fields.length ld, .string ⟨e.out.err.toArray⟩, .string ⟨e.out.cause.toArray⟩, .string ⟨e.machine.toArray⟩, .string ⟨e.input.toArray⟩, .int .i64 e.fuel]) (B := w.heap.size) (.tmp 3) ?o0 ?o1 ?o2 ?o3 ?o4 ?_); (case o0 => rfl); (case o1 => rfl); (case o2 => rfl); (case o3 => exact hn5.out); (case o4 => rfl))
    | (go_at_call 23; refine (cE.out w5 hL5.out (hok.out (hbb.out (by assumption)))).mono ?_; clear cE; rintro en w6 ⟨hen, hb6⟩; unfold ev at hen; subst hen; have hL6 := Aside0.mk (hL5.out.trans (hb6.mono hL5.out.size)); clear hcv1 hcv2))
  · go_ret
    exact ⟨rfl, hL1.out⟩
  · go_ret
    exact ⟨rfl, hL6.out⟩
set_option maxRecDepth 100000 in
set_option maxHeartbeats 32000000 in
theorem recordOne_ne (E : ErrV) (a : Addr) (e : Evn) (w : World) (cs : List Value) (bs : List UInt8) (A0 : Option Addr) (c0 : Nat) (hR0 : ReadsInt w .u8 A0 bs.length (bint bs)) (hc0 : bs.length ≤ c0) (hbl : bs.length ≤ 140737488355328) (hK : EvK w e cs) (hP : REnv E a w) (hf : e.fits) (d : Evn) (hd : dec bs = some d) (he : encs e) (hne : encB e ≠ bs) :
    Calls Tryz.prog 5 #[.slice A0 bs.length c0, .agg cs.toArray] w fun en w' => en = .returned (.bool true) ∧ Below w.heap.size w w' := by
  obtain ⟨PA, pc, A, lc, B, ld, rfl, hR, hV⟩ := hK.open2
  simp only [Array.toArray_toList]
  have hb0 := (Below.refl w.heap.size w).alloc (Nat.le_refl _) (.cells (evA e PA pc A lc B ld) 48)
  have hn0 := heap_alloc_new w (.cells (evA e PA pc A lc B ld) 48)
  have hc1 := cellAll hn0
  have cB := beyond_any e.out.value _ _ (kV.K_below hb0 hV) hf.value
  obtain ⟨hed, hbd⟩ := dec_enc bs d hd
  have cD := fun (W : World) (hb : Below w.heap.size w W) (A0 : Option Addr) (c0 : Nat) (hR : ReadsInt W .u8 A0 bs.length (bint bs)) (hc : bs.length ≤ c0) => dec_some E a bs d hd A0 c0 W hR hc (hP.below hb) hbl
  have cF := fun (W : World) (hb : Below w.heap.size w W) (cs : List Value) (hK : EvK W d cs) (hok : EvOK d) => enc_yes E a d hed W cs hK (hP.below hb) hok
  rw [hbd] at cF
  have cE := fun (W : World) (hb : Below w.heap.size w W) (hok : EvOK e) => enc_yes E a e he W _ (hK.below hb) (hP.below hb) hok
  generalize encB e = bs2 at *
  have hbne : (⟨bs2.toArray⟩ : ByteArray) ≠ ⟨bs.toArray⟩ := fun h => hne (by injection h with h; exact congrArg Array.toList h)
  have hq1 := bytes_bne hbne
  have hq2 := bytes_tne hbne
  have hq3 := bytes_beq_no hbne
  have hq4 : (bs2 == bs) = false := by simpa using hne
  have hq5 : (!(bs2 == bs)) = true := by rw [hq4]; rfl
  clear hne hbne
  simp only [Array.toArray_toList] at cE
  unfold evA at hb0 hn0 hc1 cB cE ⊢
  unfold valL JV.cells at cB
  have cA := fun (W : World) (hb : Below w.heap.size w W) => awake13_any E a W (hP.below hb)
  have hev := fun (W : World) (hb : Below w.heap.size w W) => (hP.below hb).cell
  have heq := eq_err a
  have hF := fun (W : World) (hb : Below w.heap.size w W) => (hP.below hb).env.facts
  generalize hn : bs.length = n at *
  replace hb0 := Aside0.mk hb0
  replace hn0 := Aside0.mk hn0
  replace cB := Aside0.mk cB
  replace cA := Aside0.mk cA
  replace hev := Aside0.mk hev
  replace hF := Aside0.mk hF
  replace hn := Aside0.mk hn
  replace hR0 := Aside0.mk hR0
  replace hc0 := Aside0.mk hc0
  have hok := Aside0.mk (EvOK.of hf)
  clear hbl
  replace cD := Aside0.mk cD
  replace cF := Aside0.mk cF
  replace cE := Aside0.mk cE
  clear hK hP hf hR hV hd hed hbd
  go_enter Tryz.func5, Tryz.ntmps5
  go_wp2_with (first
    | (go_at_call 21; refine cB.out.mono ?_; clear cB; rintro en w1 ⟨bb, rfl, hbb, hb1⟩; have hL1 := Aside0.mk (hb0.out.trans (hb1.mono hb0.out.size)); have hn1 := Aside0.mk ((hb1.block _ (blk_lt hn0.out)).trans hn0.out); replace hbb := Aside0.mk hbb; clear hn0 hc1 hb0)
    | (go_at_call 22; refine (cA.out w1 hL1.out).mono ?_; clear cA; rintro en w2 ⟨rfl, hb2⟩; have hL2 := Aside0.mk (hL1.out.trans (hb2.mono hL1.out.size)); have hn2 := Aside0.mk ((hb2.block _ (blk_lt hn1.out)).trans hn1.out); clear hn1)
    | (go_at_call 24; refine (cD.out w2 hL2.out A0 c0 (hR0.out.below hL2.out) hc0.out).mono ?_; have kD := cD; clear cD; rintro en w3 ⟨PA1, pc1, A1', lc1, B1, ld1, rfl, hK3, hok3, hb3⟩; have hba3 := low_row (cs := evA d PA1 pc1 A1' lc1 B1 ld1) ((Below.refl w3.heap.size w3).alloc (Nat.le_refl _) (.cells #[.int .i64 0, .slice none 0 0, .int .i64 0, .bool false, .int .i64 0, .bool false, .bool false, .string ⟨#[]⟩, .int .i64 0, .string ⟨#[]⟩, .slice none 0 0, .slice none 0 0, .string ⟨#[]⟩, .string ⟨#[]⟩, .string ⟨#[]⟩, .string ⟨#[]⟩, .int .i64 0] 48)) (Nat.le_refl _); have hxN3 := Aside0.mk (setRow_heap (w3.alloc (.cells #[.int .i64 0, .slice none 0 0, .int .i64 0, .bool false, .int .i64 0, .bool false, .bool false, .string ⟨#[]⟩, .int .i64 0, .string ⟨#[]⟩, .slice none 0 0, .slice none 0 0, .string ⟨#[]⟩, .string ⟨#[]⟩, .string ⟨#[]⟩, .string ⟨#[]⟩, .int .i64 0] 48)) w3.heap.size _ (evA d PA1 pc1 A1' lc1 B1 ld1) _ _ (heap_alloc_new w3 _)); have hL4 := Aside0.mk (hL2.out.trans ((hb3.trans (hba3.mono hb3.size)).mono hL2.out.size)); have hn4 := Aside0.mk ((hba3.block _ (Nat.lt_of_lt_of_le (blk_lt hn2.out) hb3.size)).trans ((hb3.block _ (blk_lt hn2.out)).trans hn2.out)); have hK4 := Aside0.mk (EvK.below hK3 hba3); replace hok3 := Aside0.mk hok3; clear hba3 hK3 hn2)
    | ((with_reducible refine list_store (cs := evA d PA1 pc1 A1' lc1 B1 ld1) (old := zeroA) (B := w3.heap.size) (.tmp 6) (.tmp 22) ?o0 ?o1 ?o2 ?o3 ?o4 ?o5 ?o6 (evA_one _ _ _ _ _ _ _) ?_); (case o0 => rfl); (case o1 => rfl); (case o2 => rfl); (case o3 => rfl); (case o4 => exact heap_alloc_new w3 _); (case o5 => rfl); (case o6 => rfl))
    | ((with_reducible refine list_load (cs := evA d PA1 pc1 A1' lc1 B1 ld1) (B := w3.heap.size) (.tmp 6) ?o0 ?o1 ?o2 ?o3 ?o4 ?_); (case o0 => rfl); (case o1 => rfl); (case o2 => rfl); (case o3 => exact hxN3.out); (case o4 => rfl))
    | (go_at_call 23; refine (cF.out _ hL4.out _ hK4.out hok3.out).mono ?_; clear cF; rintro en w5 ⟨A2, c2, rfl, hR2, hc2, hb5⟩; have hL5 := Aside0.mk (hL4.out.trans (hb5.mono hL4.out.size)); have hcv1 := conv_bytes (c := c2) hR2; have hcv2 := conv_bytes (c := c0) (hR0.out.below hL5.out); have hn5 := Aside0.mk ((hb5.block _ (blk_lt hn4.out)).trans hn4.out); have hx5 := Aside0.mk ((hb5.block _ (blk_lt hxN3.out)).trans hxN3.out); have hK5 := Aside0.mk (EvK.below hK4.out hb5); replace hc2 := Aside0.mk hc2; clear hn4 hxN3 hK4 hR2)
    | ((with_reducible refine list_load (cs := #[.int .i64 e.kind, .slice PA e.place.length pc, .int .i64 e.time, .bool e.out.fine, .int .i64 e.out.value.kind, .bool e.out.value.truth, .bool e.out.value.neg, .string e.out.value.digits, .int .i64 e.out.value.exp, .string e.out.value.text, .slice A e.out.value.list.length lc, .slice B e.out.value.fields.length ld, .string ⟨e.out.err.toArray⟩, .string ⟨e.out.cause.toArray⟩, .string ⟨e.machine.toArray⟩, .string ⟨e.input.toArray⟩, .int .i64 e.fuel]) (B := w.heap.size) (.tmp 3) ?o0 ?o1 ?o2 ?o3 ?o4 ?_); (case o0 => rfl); (case o1 => rfl); (case o2 => rfl); (case o3 => exact hn5.out); (case o4 => rfl))
    | (go_at_call 23; refine (cE.out w5 hL5.out (hok.out (hbb.out (by assumption)))).mono ?_; clear cE; rintro en w6 ⟨A3, c3, rfl, hR3, hc3, hb6⟩; have hL6 := Aside0.mk (hL5.out.trans (hb6.mono hL5.out.size)); clear hcv1 hcv2; have hcv3 := conv_bytes (c := c3) hR3; have hcv4 := conv_bytes (c := c0) (hR0.out.below hL6.out)))
  · go_ret
    exact ⟨rfl, hL1.out⟩
  · go_ret
    exact ⟨rfl, hL6.out⟩
set_option maxRecDepth 100000 in
set_option maxHeartbeats 32000000 in
theorem recordOne_eq (E : ErrV) (a : Addr) (e : Evn) (w : World) (cs : List Value) (bs : List UInt8) (A0 : Option Addr) (c0 : Nat) (hR0 : ReadsInt w .u8 A0 bs.length (bint bs)) (hc0 : bs.length ≤ c0) (hbl : bs.length ≤ 140737488355328) (hK : EvK w e cs) (hP : REnv E a w) (hf : e.fits) (d : Evn) (hd : dec bs = some d) (he : encs e) (hne : encB e = bs) :
    Calls Tryz.prog 5 #[.slice A0 bs.length c0, .agg cs.toArray] w fun en w' => en = .returned (.bool true) ∧ Below w.heap.size w w' := by
  obtain ⟨PA, pc, A, lc, B, ld, rfl, hR, hV⟩ := hK.open2
  simp only [Array.toArray_toList]
  have hb0 := (Below.refl w.heap.size w).alloc (Nat.le_refl _) (.cells (evA e PA pc A lc B ld) 48)
  have hn0 := heap_alloc_new w (.cells (evA e PA pc A lc B ld) 48)
  have hc1 := cellAll hn0
  have cB := beyond_any e.out.value _ _ (kV.K_below hb0 hV) hf.value
  obtain ⟨hed, hbd⟩ := dec_enc bs d hd
  have cD := fun (W : World) (hb : Below w.heap.size w W) (A0 : Option Addr) (c0 : Nat) (hR : ReadsInt W .u8 A0 bs.length (bint bs)) (hc : bs.length ≤ c0) => dec_some E a bs d hd A0 c0 W hR hc (hP.below hb) hbl
  have cF := fun (W : World) (hb : Below w.heap.size w W) (cs : List Value) (hK : EvK W d cs) (hok : EvOK d) => enc_yes E a d hed W cs hK (hP.below hb) hok
  rw [hbd] at cF
  have cE := fun (W : World) (hb : Below w.heap.size w W) (hok : EvOK e) => enc_yes E a e he W _ (hK.below hb) (hP.below hb) hok
  rw [hne] at cE
  clear hne
  simp only [Array.toArray_toList] at cE
  unfold evA at hb0 hn0 hc1 cB cE ⊢
  unfold valL JV.cells at cB
  have cA := fun (W : World) (hb : Below w.heap.size w W) => awake13_any E a W (hP.below hb)
  have hev := fun (W : World) (hb : Below w.heap.size w W) => (hP.below hb).cell
  have heq := eq_err a
  have hF := fun (W : World) (hb : Below w.heap.size w W) => (hP.below hb).env.facts
  generalize hn : bs.length = n at *
  replace hb0 := Aside0.mk hb0
  replace hn0 := Aside0.mk hn0
  replace cB := Aside0.mk cB
  replace cA := Aside0.mk cA
  replace hev := Aside0.mk hev
  replace hF := Aside0.mk hF
  replace hn := Aside0.mk hn
  replace hR0 := Aside0.mk hR0
  replace hc0 := Aside0.mk hc0
  have hok := Aside0.mk (EvOK.of hf)
  clear hbl
  replace cD := Aside0.mk cD
  replace cF := Aside0.mk cF
  replace cE := Aside0.mk cE
  clear hK hP hf hR hV hd hed hbd
  go_enter Tryz.func5, Tryz.ntmps5
  go_wp2_with (first
    | (go_at_call 21; refine cB.out.mono ?_; clear cB; rintro en w1 ⟨bb, rfl, hbb, hb1⟩; have hL1 := Aside0.mk (hb0.out.trans (hb1.mono hb0.out.size)); have hn1 := Aside0.mk ((hb1.block _ (blk_lt hn0.out)).trans hn0.out); replace hbb := Aside0.mk hbb; clear hn0 hc1 hb0)
    | (go_at_call 22; refine (cA.out w1 hL1.out).mono ?_; clear cA; rintro en w2 ⟨rfl, hb2⟩; have hL2 := Aside0.mk (hL1.out.trans (hb2.mono hL1.out.size)); have hn2 := Aside0.mk ((hb2.block _ (blk_lt hn1.out)).trans hn1.out); clear hn1)
    | (go_at_call 24; refine (cD.out w2 hL2.out A0 c0 (hR0.out.below hL2.out) hc0.out).mono ?_; have kD := cD; clear cD; rintro en w3 ⟨PA1, pc1, A1', lc1, B1, ld1, rfl, hK3, hok3, hb3⟩; have hba3 := low_row (cs := evA d PA1 pc1 A1' lc1 B1 ld1) ((Below.refl w3.heap.size w3).alloc (Nat.le_refl _) (.cells #[.int .i64 0, .slice none 0 0, .int .i64 0, .bool false, .int .i64 0, .bool false, .bool false, .string ⟨#[]⟩, .int .i64 0, .string ⟨#[]⟩, .slice none 0 0, .slice none 0 0, .string ⟨#[]⟩, .string ⟨#[]⟩, .string ⟨#[]⟩, .string ⟨#[]⟩, .int .i64 0] 48)) (Nat.le_refl _); have hxN3 := Aside0.mk (setRow_heap (w3.alloc (.cells #[.int .i64 0, .slice none 0 0, .int .i64 0, .bool false, .int .i64 0, .bool false, .bool false, .string ⟨#[]⟩, .int .i64 0, .string ⟨#[]⟩, .slice none 0 0, .slice none 0 0, .string ⟨#[]⟩, .string ⟨#[]⟩, .string ⟨#[]⟩, .string ⟨#[]⟩, .int .i64 0] 48)) w3.heap.size _ (evA d PA1 pc1 A1' lc1 B1 ld1) _ _ (heap_alloc_new w3 _)); have hL4 := Aside0.mk (hL2.out.trans ((hb3.trans (hba3.mono hb3.size)).mono hL2.out.size)); have hn4 := Aside0.mk ((hba3.block _ (Nat.lt_of_lt_of_le (blk_lt hn2.out) hb3.size)).trans ((hb3.block _ (blk_lt hn2.out)).trans hn2.out)); have hK4 := Aside0.mk (EvK.below hK3 hba3); replace hok3 := Aside0.mk hok3; clear hba3 hK3 hn2)
    | ((with_reducible refine list_store (cs := evA d PA1 pc1 A1' lc1 B1 ld1) (old := zeroA) (B := w3.heap.size) (.tmp 6) (.tmp 22) ?o0 ?o1 ?o2 ?o3 ?o4 ?o5 ?o6 (evA_one _ _ _ _ _ _ _) ?_); (case o0 => rfl); (case o1 => rfl); (case o2 => rfl); (case o3 => rfl); (case o4 => exact heap_alloc_new w3 _); (case o5 => rfl); (case o6 => rfl))
    | ((with_reducible refine list_load (cs := evA d PA1 pc1 A1' lc1 B1 ld1) (B := w3.heap.size) (.tmp 6) ?o0 ?o1 ?o2 ?o3 ?o4 ?_); (case o0 => rfl); (case o1 => rfl); (case o2 => rfl); (case o3 => exact hxN3.out); (case o4 => rfl))
    | (go_at_call 23; refine (cF.out _ hL4.out _ hK4.out hok3.out).mono ?_; clear cF; rintro en w5 ⟨A2, c2, rfl, hR2, hc2, hb5⟩; have hL5 := Aside0.mk (hL4.out.trans (hb5.mono hL4.out.size)); have hcv1 := conv_bytes (c := c2) hR2; have hcv2 := conv_bytes (c := c0) (hR0.out.below hL5.out); have hn5 := Aside0.mk ((hb5.block _ (blk_lt hn4.out)).trans hn4.out); have hx5 := Aside0.mk ((hb5.block _ (blk_lt hxN3.out)).trans hxN3.out); have hK5 := Aside0.mk (EvK.below hK4.out hb5); replace hc2 := Aside0.mk hc2; clear hn4 hxN3 hK4 hR2)
    | ((with_reducible refine list_load (cs := #[.int .i64 e.kind, .slice PA e.place.length pc, .int .i64 e.time, .bool e.out.fine, .int .i64 e.out.value.kind, .bool e.out.value.truth, .bool e.out.value.neg, .string e.out.value.digits, .int .i64 e.out.value.exp, .string e.out.value.text, .slice A e.out.value.list.length lc, .slice B e.out.value.fields.length ld, .string ⟨e.out.err.toArray⟩, .string ⟨e.out.cause.toArray⟩, .string ⟨e.machine.toArray⟩, .string ⟨e.input.toArray⟩, .int .i64 e.fuel]) (B := w.heap.size) (.tmp 3) ?o0 ?o1 ?o2 ?o3 ?o4 ?_); (case o0 => rfl); (case o1 => rfl); (case o2 => rfl); (case o3 => exact hn5.out); (case o4 => rfl))
    | (go_at_call 23; refine (cE.out w5 hL5.out (hok.out (hbb.out (by assumption)))).mono ?_; clear cE; rintro en w6 ⟨A3, c3, rfl, hR3, hc3, hb6⟩; have hL6 := Aside0.mk (hL5.out.trans (hb6.mono hL5.out.size)); clear hcv1 hcv2; have hcv3 := conv_bytes (c := c3) hR3; have hcv4 := conv_bytes (c := c0) (hR0.out.below hL6.out); have hx6 := Aside0.mk ((hb6.block _ (blk_lt hx5.out)).trans hx5.out); have hK6 := Aside0.mk (EvK.below hK5.out hb6); replace hR3 := Aside0.mk hR3; replace hc3 := Aside0.mk hc3; clear hx5 hK5)
    | (go_at_call 24; refine (kD.out w6 hL6.out A3 c3 hR3.out hc3.out).mono ?_; clear kD hcv3 hcv4; rintro en w7 ⟨PA7, pc7, A7, lc7, B7, ld7, rfl, hK7, hok7, hb7⟩; have hba7 := low_row (cs := evA d PA7 pc7 A7 lc7 B7 ld7) ((Below.refl w7.heap.size w7).alloc (Nat.le_refl _) (.cells #[.int .i64 0, .slice none 0 0, .int .i64 0, .bool false, .int .i64 0, .bool false, .bool false, .string ⟨#[]⟩, .int .i64 0, .string ⟨#[]⟩, .slice none 0 0, .slice none 0 0, .string ⟨#[]⟩, .string ⟨#[]⟩, .string ⟨#[]⟩, .string ⟨#[]⟩, .int .i64 0] 48)) (Nat.le_refl _); have hxN7 := Aside0.mk (setRow_heap (w7.alloc (.cells #[.int .i64 0, .slice none 0 0, .int .i64 0, .bool false, .int .i64 0, .bool false, .bool false, .string ⟨#[]⟩, .int .i64 0, .string ⟨#[]⟩, .slice none 0 0, .slice none 0 0, .string ⟨#[]⟩, .string ⟨#[]⟩, .string ⟨#[]⟩, .string ⟨#[]⟩, .int .i64 0] 48)) w7.heap.size _ (evA d PA7 pc7 A7 lc7 B7 ld7) _ _ (heap_alloc_new w7 _)); have hL8 := Aside0.mk (hL6.out.trans ((hb7.trans (hba7.mono hb7.size)).mono hL6.out.size)); have hx8 := Aside0.mk ((hba7.block _ (Nat.lt_of_lt_of_le (blk_lt hx6.out) hb7.size)).trans ((hb7.block _ (blk_lt hx6.out)).trans hx6.out)); have cS := same13_any d _ _ _ (EvK.below hK7 hba7) (EvK.below (EvK.below hK6.out hb7) hba7) (hF.out _ hL8.out) hok7; simp only [Array.toArray_toList] at cS; replace cS := Aside0.mk cS; clear hba7 hK7 hx6 hK6)
    | ((with_reducible refine list_store (cs := evA d PA7 pc7 A7 lc7 B7 ld7) (old := zeroA) (B := w7.heap.size) (.tmp 12) (.tmp 67) ?o0 ?o1 ?o2 ?o3 ?o4 ?o5 ?o6 (evA_one _ _ _ _ _ _ _) ?_); (case o0 => rfl); (case o1 => rfl); (case o2 => rfl); (case o3 => rfl); (case o4 => exact heap_alloc_new w7 _); (case o5 => rfl); (case o6 => rfl))
    | ((with_reducible refine list_load_want (cs := evA d PA7 pc7 A7 lc7 B7 ld7) (B := w7.heap.size) (.tmp 12) ?o0 ?o1 ?o2 ?o3 ?o4 ?_); (case o0 => rfl); (case o1 => rfl); (case o2 => rfl); (case o3 => exact hxN7.out); (case o4 => rfl))
    | ((with_reducible refine list_load_want (cs := evA d PA1 pc1 A1' lc1 B1 ld1) (B := w3.heap.size) (.tmp 6) ?o0 ?o1 ?o2 ?o3 ?o4 ?_); (case o0 => rfl); (case o1 => rfl); (case o2 => rfl); (case o3 => exact hx8.out); (case o4 => rfl))
    | (go_at_call 25; refine cS.out.mono ?_; clear cS; rintro en w9 ⟨rfl, hb9⟩; have hL9 := Aside0.mk (hL8.out.trans (hb9.mono hL8.out.size))))
  · go_ret
    exact ⟨rfl, hL1.out⟩
  · go_ret
    exact ⟨rfl, hL9.out⟩
/-- **voyagelaw13.RecordOne.** -/
theorem recordOne_any (E : ErrV) (a : Addr) (e : Evn) (w : World) (cs : List Value) (bs : List UInt8) (A0 : Option Addr) (c0 : Nat) (hR0 : ReadsInt w .u8 A0 bs.length (bint bs)) (hc0 : bs.length ≤ c0) (hbl : bs.length ≤ 140737488355328) (hK : EvK w e cs) (hP : REnv E a w) (hf : e.fits) :
    Calls Tryz.prog 5 #[.slice A0 bs.length c0, .agg cs.toArray] w fun en w' => en = .returned (.bool true) ∧ Below w.heap.size w w' := by
  cases hd : dec bs with
  | none => exact recordOne_none E a e w cs bs A0 c0 hR0 hc0 hbl hK hP hf hd
  | some d =>
    by_cases he : encs e
    · by_cases hne : encB e = bs
      · exact recordOne_eq E a e w cs bs A0 c0 hR0 hc0 hbl hK hP hf d hd he hne
      · exact recordOne_ne E a e w cs bs A0 c0 hR0 hc0 hbl hK hP hf d hd he hne
    · exact recordOne_no E a e w cs bs A0 c0 hR0 hc0 hbl hK hP hf d hd he
end Go.Proofs.YtkdeleafgailhaaGreatDoor
end
section
set_option linter.unusedVariables false
set_option linter.unusedSimpArgs false
namespace Go.Proofs.YtkdeleafgailhaaGreatDoor
open Go Go.RowKit Go.Proofs.YtkdeleafgailhaaGreatDoorW.PrintWords
/- uses: BOwn own_le own_lit row_append_step dec_none_any dec_some enc_yes enc_dec bint_app bint_one BW conv_bytes recordBack_no -/

set_option maxRecDepth 100000 in
set_option maxHeartbeats 32000000 in
theorem recordBack_yes (E : ErrV) (a : Addr) (e : Evn) (w : World) (cs : List Value) (cut : Int) (m : UInt8) (hK : EvK w e cs) (hP : REnv E a w) (hf : e.fits) (hcut : -9223372036854775808 ≤ cut ∧ cut ≤ 9223372036854775807) (he : encs e) :
    Calls Tryz.prog 4 #[.agg cs.toArray, .int .i64 cut, .int .u8 m.toNat] w fun en w' => en = .returned (.bool true) ∧ Below w.heap.size w w' := by
  obtain ⟨d, hd, hdk, hed, hbd, hshort, hlong, hlen⟩ := enc_dec e he
  have hpos : 1 ≤ (encB e).length := by unfold encB; rw [List.length_cons]; omega
  obtain ⟨PA, pc, A, lc, B, ld, rfl, hR, hV⟩ := hK.open2
  simp only [Array.toArray_toList]
  have hb0 := (Below.refl w.heap.size w).alloc (Nat.le_refl _) (.cells (evA e PA pc A lc B ld) 48)
  have hn0 := heap_alloc_new w (.cells (evA e PA pc A lc B ld) 48)
  have hc0 := cellAll hn0
  have cB := beyond_any e.out.value _ _ (kV.K_below hb0 hV) hf.value
  have cE := fun (W : World) (hb : Below w.heap.size w W) (hok : EvOK e) => enc_yes E a e he W _ (hK.below hb) (hP.below hb) hok
  simp only [Array.toArray_toList] at cE
  unfold evA at hb0 hn0 hc0 cB cE ⊢
  unfold valL JV.cells at cB
  have cA := fun (W : World) (hb : Below w.heap.size w W) => awake13_any E a W (hP.below hb)
  have cD := fun (W : World) (hb : Below w.heap.size w W) (A0 : Option Addr) (c0 : Nat) (hR : ReadsInt W .u8 A0 (encB e).length (bint (encB e))) (hc : (encB e).length ≤ c0) => dec_some E a (encB e) d hd A0 c0 W hR hc (hP.below hb) (by omega)
  have cF := fun (W : World) (hb : Below w.heap.size w W) (cs : List Value) (hK : EvK W d cs) (hok : EvOK d) => enc_yes E a d hed W cs hK (hP.below hb) hok
  rw [hbd] at cF
  have cN := fun (W : World) (hb : Below w.heap.size w W) (bs : List UInt8) (hd : dec bs = none) (hl : bs.length ≤ 140737488355328) (A0 : Option Addr) (c0 : Nat) (hR : ReadsInt W .u8 A0 bs.length (bint bs)) (hc : bs.length ≤ c0) => dec_none_any E a bs hd A0 c0 W hR hc (hP.below hb) hl
  have hev := fun (W : World) (hb : Below w.heap.size w W) => (hP.below hb).cell
  have heq := eq_err a
  generalize encB e = bs at *
  generalize hn : bs.length = n at *
  have hgt : ¬ (4194304 : Int) < (n : Int) := by omega
  replace hb0 := Aside0.mk hb0
  replace hn0 := Aside0.mk hn0
  replace cB := Aside0.mk cB
  replace cE := Aside0.mk cE
  replace cA := Aside0.mk cA
  replace cD := Aside0.mk cD
  replace cF := Aside0.mk cF
  replace cN := Aside0.mk cN
  replace hev := Aside0.mk hev
  have hok := Aside0.mk (EvOK.of hf)
  replace hshort := Aside0.mk hshort
  replace hlong := Aside0.mk hlong
  replace hn := Aside0.mk hn
  replace hlen := Aside0.mk hlen
  replace hpos := Aside0.mk hpos
  replace hcut := Aside0.mk hcut
  clear hK hP hf he hR hV hd hed hbd
  go_enter Tryz.func4, Tryz.ntmps4
  go_upto_region 13 with (first
    | (go_at_call 21; refine cB.out.mono ?_; clear cB; rintro en w1 ⟨bb, rfl, hbb, hb1⟩; have hL1 := Aside0.mk (hb0.out.trans (hb1.mono hb0.out.size)); have hn1 := Aside0.mk ((hb1.block _ (blk_lt hn0.out)).trans hn0.out); replace hbb := Aside0.mk hbb; clear hn0 hc0 hb0)
    | (go_at_call 22; refine (cA.out w1 hL1.out).mono ?_; clear cA; rintro en w2 ⟨rfl, hb2⟩; have hL2 := Aside0.mk (hL1.out.trans (hb2.mono hL1.out.size)); have hn2 := Aside0.mk ((hb2.block _ (blk_lt hn1.out)).trans hn1.out); have hc2 := cellAll hn2.out; clear hn1)
    | ((with_reducible refine list_load (cs := #[.int .i64 e.kind, .slice PA e.place.length pc, .int .i64 e.time, .bool e.out.fine, .int .i64 e.out.value.kind, .bool e.out.value.truth, .bool e.out.value.neg, .string e.out.value.digits, .int .i64 e.out.value.exp, .string e.out.value.text, .slice A e.out.value.list.length lc, .slice B e.out.value.fields.length ld, .string ⟨e.out.err.toArray⟩, .string ⟨e.out.cause.toArray⟩, .string ⟨e.machine.toArray⟩, .string ⟨e.input.toArray⟩, .int .i64 e.fuel]) (B := w.heap.size) (.tmp 3) ?o0 ?o1 ?o2 ?o3 ?o4 ?_); (case o0 => rfl); (case o1 => rfl); (case o2 => rfl); (case o3 => exact hn2.out); (case o4 => rfl))
    | (go_at_call 23; refine (cE.out w2 hL2.out (hok.out (hbb.out (by assumption)))).mono ?_; clear cE; rintro en w3 ⟨A1, c1, rfl, hR1, hc1, hb3⟩; have hL3 := Aside0.mk (hL2.out.trans (hb3.mono hL2.out.size)); have hn3 := Aside0.mk ((hb3.block _ (blk_lt hn2.out)).trans hn2.out); replace hR1 := Aside0.mk hR1; replace hc1 := Aside0.mk hc1; clear hn2 hc2)
    | (go_at_call 24; refine (cD.out w3 hL3.out A1 c1 hR1.out hc1.out).mono ?_; clear cD; rintro en w4 ⟨PA1, pc1, A1', lc1, B1, ld1, rfl, hK4, hok4, hb4⟩; have hba4 := low_row (cs := evA d PA1 pc1 A1' lc1 B1 ld1) ((Below.refl w4.heap.size w4).alloc (Nat.le_refl _) (.cells #[.int .i64 0, .slice none 0 0, .int .i64 0, .bool false, .int .i64 0, .bool false, .bool false, .string ⟨#[]⟩, .int .i64 0, .string ⟨#[]⟩, .slice none 0 0, .slice none 0 0, .string ⟨#[]⟩, .string ⟨#[]⟩, .string ⟨#[]⟩, .string ⟨#[]⟩, .int .i64 0] 48)) (Nat.le_refl _); have hxN4 := Aside0.mk (setRow_heap (w4.alloc (.cells #[.int .i64 0, .slice none 0 0, .int .i64 0, .bool false, .int .i64 0, .bool false, .bool false, .string ⟨#[]⟩, .int .i64 0, .string ⟨#[]⟩, .slice none 0 0, .slice none 0 0, .string ⟨#[]⟩, .string ⟨#[]⟩, .string ⟨#[]⟩, .string ⟨#[]⟩, .int .i64 0] 48)) w4.heap.size _ (evA d PA1 pc1 A1' lc1 B1 ld1) _ _ (heap_alloc_new w4 _)); have hL5 := Aside0.mk (hL3.out.trans ((hb4.trans (hba4.mono hb4.size)).mono hL3.out.size)); have hq0 : _ = some (Value.int .i64 d.kind) := cellAll hxN4.out 0; rw [hdk] at hq0; have hn5 := Aside0.mk ((hba4.block _ (Nat.lt_of_lt_of_le (blk_lt hn3.out) hb4.size)).trans ((hb4.block _ (blk_lt hn3.out)).trans hn3.out)); have hc5 := cellAll hn5.out; have hK5 := Aside0.mk (EvK.below hK4 hba4); have hR5 := Aside0.mk (ReadsInt.below (ReadsInt.below hR1.out hb4) hba4); replace hok4 := Aside0.mk hok4; clear hba4 hK4 hn3 hR1)
    | ((with_reducible refine list_store (cs := evA d PA1 pc1 A1' lc1 B1 ld1) (old := zeroA) (B := w4.heap.size) (.tmp 10) (.tmp 40) ?o0 ?o1 ?o2 ?o3 ?o4 ?o5 ?o6 (evA_one _ _ _ _ _ _ _) ?_); (case o0 => rfl); (case o1 => rfl); (case o2 => rfl); (case o3 => rfl); (case o4 => exact heap_alloc_new w4 _); (case o5 => rfl); (case o6 => rfl))
    | ((with_reducible refine list_load (cs := evA d PA1 pc1 A1' lc1 B1 ld1) (B := w4.heap.size) (.tmp 10) ?o0 ?o1 ?o2 ?o3 ?o4 ?_); (case o0 => rfl); (case o1 => rfl); (case o2 => rfl); (case o3 => exact hxN4.out); (case o4 => rfl))
    | (go_at_call 23; refine (cF.out _ hL5.out _ hK5.out hok4.out).mono ?_; clear cF; rintro en w6 ⟨A2, c2, rfl, hR2, hc2, hb6⟩; have hcv1 := conv_bytes (c := c1) (ReadsInt.below hR5.out hb6); have hcv2 := conv_bytes (c := c2) hR2; have hL6 := Aside0.mk (hL5.out.trans (hb6.mono hL5.out.size)); have hR6 := Aside0.mk (ReadsInt.below hR5.out hb6); clear hR5 hK5 hR2 hc5 hq0))
  · go_ret
    exact ⟨rfl, hL1.out⟩
  by_cases hneg : cut < 0
  · go_upto_region 15 with (fail)
    obtain ⟨k, hk, hk0⟩ : ∃ k : Int, wrap64 (-wrap64 (cut + 1)) = k ∧ 0 ≤ k ∧ k ≤ 9223372036854775807 := ⟨_, rfl, by have := hcut.out; unfold wrap64; omega, by have := hcut.out; unfold wrap64; omega⟩
    rw [hk]
    clear hk hneg hcut
    have hn9 := hn.out
    have hp9 := hpos.out
    have hj0 : 0 ≤ k % (n : Int) := Int.emod_nonneg _ (by omega)
    have hj1 : k % (n : Int) < (n : Int) := Int.emod_lt_of_pos _ (by omega)
    have hj2 : k % (n : Int) ≤ (c1 : Int) := by have := hc1.out; omega
    have hnz : ¬ n = 0 := by omega
    obtain ⟨hs1, hs2, hs3⟩ := print_take_int (k := .u8) (P := Tryz.prog) 49 5 Tryz.underlying49 rfl rfl A1 c1 (bint bs) (k % (n : Int)) hj0 (by rw [bint_len]; omega) (by rw [bint_len, hn9]; exact hc1.out)
    have hbt : ∀ i : Nat, (bint bs).take i = bint (bs.take i) := fun i => by simp [bint, List.map_take]
    rw [hbt, bint_len] at hs2
    rw [hbt, bint_len] at hs3
    rw [bint_len] at hs2
    rw [hn9] at hs2
    have hRc := hs2 _ hR6.out
    have hdn := hshort.out (k % (n : Int)).toNat (by omega)
    have hlt9 : (bs.take (k % (n : Int)).toNat).length = (k % (n : Int)).toNat := by rw [List.length_take]; omega
    have cN1 := cN.out _ hL6.out _ hdn (by rw [List.length_take]; omega) A1 c1 hRc hs3
    rw [hlt9] at cN1
    replace cN1 := Aside0.mk cN1
    clear hs1 hs2 hs3 hdn hRc hshort hlt9 hbt
    replace hn9 := Aside0.mk hn9
    go_upto_region 17 with (first
      | (go_at_call 24; refine cN1.out.mono ?_; clear cN1; rintro en w7 ⟨hen, hb7⟩; unfold ev at hen; subst hen; have hba7 := low_row (cs := zeroA) ((Below.refl w7.heap.size w7).alloc (Nat.le_refl _) (.cells #[.int .i64 0, .slice none 0 0, .int .i64 0, .bool false, .int .i64 0, .bool false, .bool false, .string ⟨#[]⟩, .int .i64 0, .string ⟨#[]⟩, .slice none 0 0, .slice none 0 0, .string ⟨#[]⟩, .string ⟨#[]⟩, .string ⟨#[]⟩, .string ⟨#[]⟩, .int .i64 0] 48)) (Nat.le_refl _); have hxN7 := Aside0.mk (setRow_heap (w7.alloc (.cells #[.int .i64 0, .slice none 0 0, .int .i64 0, .bool false, .int .i64 0, .bool false, .bool false, .string ⟨#[]⟩, .int .i64 0, .string ⟨#[]⟩, .slice none 0 0, .slice none 0 0, .string ⟨#[]⟩, .string ⟨#[]⟩, .string ⟨#[]⟩, .string ⟨#[]⟩, .int .i64 0] 48)) w7.heap.size _ (zeroA) _ _ (heap_alloc_new w7 _)); have hL8 := Aside0.mk (hL6.out.trans ((hb7.trans (hba7.mono hb7.size)).mono hL6.out.size)); have hR8 := Aside0.mk (ReadsInt.below (ReadsInt.below hR6.out hb7) hba7); clear hba7 hR6)
      | ((with_reducible refine list_store (cs := zeroA) (old := zeroA) (B := w7.heap.size) (.tmp 14) (.tmp 87) ?o0 ?o1 ?o2 ?o3 ?o4 ?o5 ?o6 (zero_one) ?_); (case o0 => rfl); (case o1 => rfl); (case o2 => rfl); (case o3 => rfl); (case o4 => exact heap_alloc_new w7 _); (case o5 => rfl); (case o6 => rfl)))
    generalize (World.setRow _ _ _) = w8 at hL8 hR8 ⊢
    clear hxN7 hj0 hj1 hj2 hnz
    have hO8 : w8.ownsRow w8.heap.size 5 1 (.slice none 0 0) ([] : List Int).length (nums .u8 []) := own_nil _ _ _ _
    replace hO8 := Aside0.mk hO8
    go_upto_region 18 with ((with_reducible refine gate_builtin (b := .append) (xs := #[.tmp 89, .tmp 90]) rfl ?_); at_builtin; refine print_append_row (w0 := w8) w8.heap.size rfl (.tmp 89) (.tmp 90) 49 5 .u8 1 rfl Tryz.underlying49 (by kernel_rfl) (by decide) (.slice none 0 0) [] (bint bs) A1 n c1 rfl rfl hO8.out hR8.out (Below.refl _ _) (Nat.le_refl _) (by have := hlen.out; simp; omega) ?_; intro v9 w9 hown9 hB9 hg9 hat9; clear hg9 hat9)
    have hO9 : BOwn w8.heap.size v9 bs w9 := by
      unfold BOwn
      rw [List.nil_append, bint_len] at hown9
      exact hown9
    clear hown9 hO8 hR8
    have hL9 := Aside0.mk (hL8.out.trans (hB9.mono hL8.out.size))
    go_upto_region 19 with ((with_reducible refine gate_builtin (b := .append) (xs := #[.tmp 92, .tmp 94]) rfl ?_); at_builtin; refine print_append_num (w0 := w9) w8.heap.size rfl (.tmp 92) (.tmp 94) 49 5 .u8 1 rfl Tryz.underlying49 (by kernel_rfl) (by decide) v9 (bint bs) (m.toNat : Int) rfl rfl (by rw [bint_len]; exact hO9) (Below.refl _ _) hB9.size (by have := hlen.out; have := hn9.out; rw [bint_len]; omega) ?_; intro v10 w10 hown10 hB10 hg10 hat10; clear hg10 hat10)
    obtain ⟨bs2, hb2⟩ : ∃ q, q = bs ++ [m] := ⟨_, rfl⟩
    have hO10 : BOwn w8.heap.size v10 bs2 w10 := by
      have e1 : bint bs2 = bint bs ++ [(m.toNat : Int)] := by rw [hb2, bint_app, bint_one]
      unfold BOwn
      rw [← e1, bint_len] at hown10
      exact hown10
    have hl2 : bs2.length = n + 1 := by rw [hb2, List.length_append, hn9.out]; rfl
    have hd2 : dec bs2 = none := by rw [hb2]; exact hlong.out m
    have hL10 := Aside0.mk (hL9.out.trans (hB10.mono hL8.out.size))
    obtain ⟨A10, c10, rfl, hR10⟩ := hO10.reads
    have cN2 := cN.out _ hL10.out bs2 hd2 (by have := hlen.out; omega) A10 c10 hR10 (own_le hO10)
    clear hown10 hO10 hO9 hR10 hd2 hb2 hlong
    replace hl2 := Aside0.mk hl2
    generalize bs2.length = n2 at hl2 cN2 ⊢
    replace cN2 := Aside0.mk cN2
    go_wp2_with (first
      | (go_at_call 24; refine cN2.out.mono ?_; clear cN2; rintro en w11 ⟨hen, hb11⟩; unfold ev at hen; subst hen; have hba11 := low_row (cs := zeroA) ((Below.refl w11.heap.size w11).alloc (Nat.le_refl _) (.cells #[.int .i64 0, .slice none 0 0, .int .i64 0, .bool false, .int .i64 0, .bool false, .bool false, .string ⟨#[]⟩, .int .i64 0, .string ⟨#[]⟩, .slice none 0 0, .slice none 0 0, .string ⟨#[]⟩, .string ⟨#[]⟩, .string ⟨#[]⟩, .string ⟨#[]⟩, .int .i64 0] 48)) (Nat.le_refl _); have hxN11 := Aside0.mk (setRow_heap (w11.alloc (.cells #[.int .i64 0, .slice none 0 0, .int .i64 0, .bool false, .int .i64 0, .bool false, .bool false, .string ⟨#[]⟩, .int .i64 0, .string ⟨#[]⟩, .slice none 0 0, .slice none 0 0, .string ⟨#[]⟩, .string ⟨#[]⟩, .string ⟨#[]⟩, .string ⟨#[]⟩, .int .i64 0] 48)) w11.heap.size _ (zeroA) _ _ (heap_alloc_new w11 _)); have hL12 := Aside0.mk (hL10.out.trans ((hb11.trans (hba11.mono hb11.size)).mono hL10.out.size)); have hv12 := hev.out _ hL12.out; clear hba11)
      | ((with_reducible refine list_store (cs := zeroA) (old := zeroA) (B := w11.heap.size) (.tmp 17) (.tmp 99) ?o0 ?o1 ?o2 ?o3 ?o4 ?o5 ?o6 (zero_one) ?_); (case o0 => rfl); (case o1 => rfl); (case o2 => rfl); (case o3 => rfl); (case o4 => exact heap_alloc_new w11 _); (case o5 => rfl); (case o6 => rfl)))
    go_ret
    exact ⟨rfl, hL12.out⟩
  · go_upto_region 15 with (fail)
    obtain ⟨k, hk, hk0⟩ : ∃ k : Int, cut = k ∧ 0 ≤ k ∧ k ≤ 9223372036854775807 := ⟨_, rfl, by omega, hcut.out.2⟩
    rw [hk]
    clear hk hneg hcut
    have hn9 := hn.out
    have hp9 := hpos.out
    have hj0 : 0 ≤ k % (n : Int) := Int.emod_nonneg _ (by omega)
    have hj1 : k % (n : Int) < (n : Int) := Int.emod_lt_of_pos _ (by omega)
    have hj2 : k % (n : Int) ≤ (c1 : Int) := by have := hc1.out; omega
    have hnz : ¬ n = 0 := by omega
    obtain ⟨hs1, hs2, hs3⟩ := print_take_int (k := .u8) (P := Tryz.prog) 49 5 Tryz.underlying49 rfl rfl A1 c1 (bint bs) (k % (n : Int)) hj0 (by rw [bint_len]; omega) (by rw [bint_len, hn9]; exact hc1.out)
    have hbt : ∀ i : Nat, (bint bs).take i = bint (bs.take i) := fun i => by simp [bint, List.map_take]
    rw [hbt, bint_len] at hs2
    rw [hbt, bint_len] at hs3
    rw [bint_len] at hs2
    rw [hn9] at hs2
    have hRc := hs2 _ hR6.out
    have hdn := hshort.out (k % (n : Int)).toNat (by omega)
    have hlt9 : (bs.take (k % (n : Int)).toNat).length = (k % (n : Int)).toNat := by rw [List.length_take]; omega
    have cN1 := cN.out _ hL6.out _ hdn (by rw [List.length_take]; omega) A1 c1 hRc hs3
    rw [hlt9] at cN1
    replace cN1 := Aside0.mk cN1
    clear hs1 hs2 hs3 hdn hRc hshort hlt9 hbt
    replace hn9 := Aside0.mk hn9
    go_upto_region 17 with (first
      | (go_at_call 24; refine cN1.out.mono ?_; clear cN1; rintro en w7 ⟨hen, hb7⟩; unfold ev at hen; subst hen; have hba7 := low_row (cs := zeroA) ((Below.refl w7.heap.size w7).alloc (Nat.le_refl _) (.cells #[.int .i64 0, .slice none 0 0, .int .i64 0, .bool false, .int .i64 0, .bool false, .bool false, .string ⟨#[]⟩, .int .i64 0, .string ⟨#[]⟩, .slice none 0 0, .slice none 0 0, .string ⟨#[]⟩, .string ⟨#[]⟩, .string ⟨#[]⟩, .string ⟨#[]⟩, .int .i64 0] 48)) (Nat.le_refl _); have hxN7 := Aside0.mk (setRow_heap (w7.alloc (.cells #[.int .i64 0, .slice none 0 0, .int .i64 0, .bool false, .int .i64 0, .bool false, .bool false, .string ⟨#[]⟩, .int .i64 0, .string ⟨#[]⟩, .slice none 0 0, .slice none 0 0, .string ⟨#[]⟩, .string ⟨#[]⟩, .string ⟨#[]⟩, .string ⟨#[]⟩, .int .i64 0] 48)) w7.heap.size _ (zeroA) _ _ (heap_alloc_new w7 _)); have hL8 := Aside0.mk (hL6.out.trans ((hb7.trans (hba7.mono hb7.size)).mono hL6.out.size)); have hR8 := Aside0.mk (ReadsInt.below (ReadsInt.below hR6.out hb7) hba7); clear hba7 hR6)
      | ((with_reducible refine list_store (cs := zeroA) (old := zeroA) (B := w7.heap.size) (.tmp 14) (.tmp 87) ?o0 ?o1 ?o2 ?o3 ?o4 ?o5 ?o6 (zero_one) ?_); (case o0 => rfl); (case o1 => rfl); (case o2 => rfl); (case o3 => rfl); (case o4 => exact heap_alloc_new w7 _); (case o5 => rfl); (case o6 => rfl)))
    generalize (World.setRow _ _ _) = w8 at hL8 hR8 ⊢
    clear hxN7 hj0 hj1 hj2 hnz
    have hO8 : w8.ownsRow w8.heap.size 5 1 (.slice none 0 0) ([] : List Int).length (nums .u8 []) := own_nil _ _ _ _
    replace hO8 := Aside0.mk hO8
    go_upto_region 18 with ((with_reducible refine gate_builtin (b := .append) (xs := #[.tmp 89, .tmp 90]) rfl ?_); at_builtin; refine print_append_row (w0 := w8) w8.heap.size rfl (.tmp 89) (.tmp 90) 49 5 .u8 1 rfl Tryz.underlying49 (by kernel_rfl) (by decide) (.slice none 0 0) [] (bint bs) A1 n c1 rfl rfl hO8.out hR8.out (Below.refl _ _) (Nat.le_refl _) (by have := hlen.out; simp; omega) ?_; intro v9 w9 hown9 hB9 hg9 hat9; clear hg9 hat9)
    have hO9 : BOwn w8.heap.size v9 bs w9 := by
      unfold BOwn
      rw [List.nil_append, bint_len] at hown9
      exact hown9
    clear hown9 hO8 hR8
    have hL9 := Aside0.mk (hL8.out.trans (hB9.mono hL8.out.size))
    go_upto_region 19 with ((with_reducible refine gate_builtin (b := .append) (xs := #[.tmp 92, .tmp 94]) rfl ?_); at_builtin; refine print_append_num (w0 := w9) w8.heap.size rfl (.tmp 92) (.tmp 94) 49 5 .u8 1 rfl Tryz.underlying49 (by kernel_rfl) (by decide) v9 (bint bs) (m.toNat : Int) rfl rfl (by rw [bint_len]; exact hO9) (Below.refl _ _) hB9.size (by have := hlen.out; have := hn9.out; rw [bint_len]; omega) ?_; intro v10 w10 hown10 hB10 hg10 hat10; clear hg10 hat10)
    obtain ⟨bs2, hb2⟩ : ∃ q, q = bs ++ [m] := ⟨_, rfl⟩
    have hO10 : BOwn w8.heap.size v10 bs2 w10 := by
      have e1 : bint bs2 = bint bs ++ [(m.toNat : Int)] := by rw [hb2, bint_app, bint_one]
      unfold BOwn
      rw [← e1, bint_len] at hown10
      exact hown10
    have hl2 : bs2.length = n + 1 := by rw [hb2, List.length_append, hn9.out]; rfl
    have hd2 : dec bs2 = none := by rw [hb2]; exact hlong.out m
    have hL10 := Aside0.mk (hL9.out.trans (hB10.mono hL8.out.size))
    obtain ⟨A10, c10, rfl, hR10⟩ := hO10.reads
    have cN2 := cN.out _ hL10.out bs2 hd2 (by have := hlen.out; omega) A10 c10 hR10 (own_le hO10)
    clear hown10 hO10 hO9 hR10 hd2 hb2 hlong
    replace hl2 := Aside0.mk hl2
    generalize bs2.length = n2 at hl2 cN2 ⊢
    replace cN2 := Aside0.mk cN2
    go_wp2_with (first
      | (go_at_call 24; refine cN2.out.mono ?_; clear cN2; rintro en w11 ⟨hen, hb11⟩; unfold ev at hen; subst hen; have hba11 := low_row (cs := zeroA) ((Below.refl w11.heap.size w11).alloc (Nat.le_refl _) (.cells #[.int .i64 0, .slice none 0 0, .int .i64 0, .bool false, .int .i64 0, .bool false, .bool false, .string ⟨#[]⟩, .int .i64 0, .string ⟨#[]⟩, .slice none 0 0, .slice none 0 0, .string ⟨#[]⟩, .string ⟨#[]⟩, .string ⟨#[]⟩, .string ⟨#[]⟩, .int .i64 0] 48)) (Nat.le_refl _); have hxN11 := Aside0.mk (setRow_heap (w11.alloc (.cells #[.int .i64 0, .slice none 0 0, .int .i64 0, .bool false, .int .i64 0, .bool false, .bool false, .string ⟨#[]⟩, .int .i64 0, .string ⟨#[]⟩, .slice none 0 0, .slice none 0 0, .string ⟨#[]⟩, .string ⟨#[]⟩, .string ⟨#[]⟩, .string ⟨#[]⟩, .int .i64 0] 48)) w11.heap.size _ (zeroA) _ _ (heap_alloc_new w11 _)); have hL12 := Aside0.mk (hL10.out.trans ((hb11.trans (hba11.mono hb11.size)).mono hL10.out.size)); have hv12 := hev.out _ hL12.out; clear hba11)
      | ((with_reducible refine list_store (cs := zeroA) (old := zeroA) (B := w11.heap.size) (.tmp 17) (.tmp 99) ?o0 ?o1 ?o2 ?o3 ?o4 ?o5 ?o6 (zero_one) ?_); (case o0 => rfl); (case o1 => rfl); (case o2 => rfl); (case o3 => rfl); (case o4 => exact heap_alloc_new w11 _); (case o5 => rfl); (case o6 => rfl)))
    go_ret
    exact ⟨rfl, hL12.out⟩
/-- **voyagelaw13.RecordBack.** -/
theorem recordBack_any (E : ErrV) (a : Addr) (e : Evn) (w : World) (cs : List Value) (cut : Int) (m : UInt8) (hK : EvK w e cs) (hP : REnv E a w) (hf : e.fits) (hcut : -9223372036854775808 ≤ cut ∧ cut ≤ 9223372036854775807) :
    Calls Tryz.prog 4 #[.agg cs.toArray, .int .i64 cut, .int .u8 m.toNat] w fun en w' => en = .returned (.bool true) ∧ Below w.heap.size w w' := by
  by_cases he : encs e
  · exact recordBack_yes E a e w cs cut m hK hP hf hcut he
  · exact recordBack_no E a e w cs cut m hK hP hf he
end Go.Proofs.YtkdeleafgailhaaGreatDoor
end
