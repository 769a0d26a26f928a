/- voyageref02.lists, fields: all lists of values, all lists of fields within a value. -/
import Derived.Test.YtkdeleafgailhaaGreatDoorN21
section
set_option linter.unusedVariables false
set_option linter.unusedSimpArgs false
namespace Go.Proofs.YtkdeleafgailhaaGreatDoor
open Go Go.RowKit Go.Proofs.YtkdeleafgailhaaGreatDoorW.PrintWords

section
variable {P : Program} {ops : Array Oper} {o : Oper} {a : Act} {Q : Exit → Act → World → Prop} {Kc : Act → World → Prop}
end
section
variable {P : Program} {ops : Array Oper} {rest : List Oper} {o : Oper} {a : Act} {Q : Exit → Act → World → Prop}
/-- append of a row of slices, behind 'at_builtin'. -/
theorem rows_append {w0 W : World} (base : Nat) (hgd : o.guard = none) (s x : Operand) (t e : TypeId) (z : Value) (bytes : Nat)
    (ho : o.op = .call { callee := .builtin .append, args := #[s, x], argTypes := #[t, t] })
    (ht : P.underlying t = some (.slice e)) (hinfo : (P.info? e).map (fun i => (i.zero, i.size, i.bytes)) = some (some z, 1, bytes)) (hz : z.cells.size = 1) (hb0 : 0 < bytes)
    (v : Value) (xs ys : List Value) (ad : Addr) (m c : Nat) (hs : a.eval s = v) (hx : a.eval x = .slice (some ad) m c)
    (HO : W.ownsRow base e 1 v xs.length xs) (hm : ys.length = m) (hcells : ∀ j u, ys[j]? = some u → W.cell? (ad.add j) = some u) (h1 : ∀ u ∈ ys, u.oneCell' = true) (HB : Below base w0 W) (hbase : base ≤ W.heap.size) (hl : (xs.length + m) * bytes ≤ 140737488355328)
    (h : ∀ v1 w1, w1.ownsRow base e 1 v1 (xs ++ ys).length (xs ++ ys) → Below base w0 w1 → W.grownBy w1 v.ownBlock → wpList P ops Q rest (a.put o.dst v1) w1) :
    wpList P ops Q (o :: rest) a W := by
  obtain ⟨i0, hi, hzz⟩ := Option.map_eq_some_iff.1 hinfo
  simp only [Prod.mk.injEq] at hzz
  obtain ⟨hz0, hz1, hz2⟩ := hzz
  have hlen : xs.length + m ≤ 140737488355328 := Nat.le_trans (Nat.le_mul_of_pos_right _ hb0) hl
  obtain ⟨v1, w1, hr, h2, h3, _, h5⟩ := run_append_own_at (P := P) W base t o.type e i0 z 1 bytes ht hi hz0 hz1 hz2 hz (by omega) v xs.length xs HO ad m c ys (by simp [hm]) hcells h1 (by simp only [maxLen]; omega) hl hbase
  refine Lib.wpList_append_run W hgd s x t t ho _ _ hs hx _ _ hr ?_
  exact h v1 w1 (by rw [List.length_append, hm]; exact h2) (HB.grown h3 hbase (own_base HO)) h3
end
theorem infoLL : (Tryz.prog.info? 24).map (fun i => (i.zero, i.size, i.bytes)) = some (some (.slice none 0 0), 1, 24) := by kernel_rfl
theorem infoFF : (Tryz.prog.info? 25).map (fun i => (i.zero, i.size, i.bytes)) = some (some (.slice none 0 0), 1, 24) := by kernel_rfl
theorem own_cells {w : World} {base e n : Nat} {v : Value} {L : List Value} (h : w.ownsRow base e 1 v n L) (hn : 0 < n) : ∃ g c, v = .slice (some ⟨g, 0, none⟩) n c ∧ base ≤ g ∧ n ≤ c ∧ ∀ j u, L[j]? = some u → w.cell? ((⟨g, 0, none⟩ : Addr).add j) = some u := by
  rcases h.2 with ⟨_, h0⟩ | ⟨g, c, cur, rfl, hgb, hg, hnc, hcm, hcs, htk⟩
  · omega
  · refine ⟨g, c, rfl, hgb, hnc, fun j u hj => ?_⟩
    refine World.news_of_block hg j u ?_
    rw [← htk, List.getElem?_take] at hj
    split at hj
    · simpa using hj
    · cases hj
theorem add_zero_form (g m : Nat) : ((⟨g, 0, none⟩ : Addr).add m).block = g ∧ ((⟨g, 0, none⟩ : Addr).add m).off = m := by
  unfold Addr.add
  split
  · rename_i h; subst h; exact ⟨rfl, rfl⟩
  · exact ⟨rfl, Nat.zero_add m⟩
theorem AP_cells {W : World} {x : JV} {cs : List Value} {S : List Nat} (h : AP W x cs S) : ∃ vl vf, cs = x.cells vl vf := by
  obtain ⟨k, t, n, d, e, s, l, f⟩ := x
  rw [AP] at h
  obtain ⟨vl, vf, _, _, h, _⟩ := h
  exact ⟨vl, vf, h⟩
theorem at_VA {w : World} {A : Option Addr} {n c g : Nat} {xs : List JV} {cur : Array Value} {Se : List Nat} (hC : kV.C w A n xs) (hrow : RowBlk w 27 8 (.slice A n c) xs.length g cur) (hL : APL w xs cur.toList Se) (j : Nat) (hj : j < n) : ∃ ad x A6 c6 A7 c7 Sj, A = some ad ∧ xs[j]? = some x ∧ CellsAt w (ad.add (j * 8)) 0 (x.cells (.slice A6 x.list.length c6) (.slice A7 x.fields.length c7)) ∧
    kV.K w x (x.cells (.slice A6 x.list.length c6) (.slice A7 x.fields.length c7)) ∧ (cur.toList.drop (j * 8)).take 8 = x.cells (.slice A6 x.list.length c6) (.slice A7 x.fields.length c7) ∧ AP w x (x.cells (.slice A6 x.list.length c6) (.slice A7 x.fields.length c7)) Sj ∧ ∀ q ∈ Sj, q ∈ Se := by
  obtain ⟨ad, x, A6, c6, A7, c7, rfl, hx, hcs, l6, g6, l7, g7⟩ := at_V hC j hj
  obtain ⟨Sj, hA, hS⟩ := APL_at xs j x hL hx
  obtain ⟨cap, e1, hg, _⟩ := hrow
  injection e1 with e1 _ _
  injection e1 with e1
  subst e1
  obtain ⟨vl, vf, he⟩ := AP_cells hA
  obtain ⟨f1, f2⟩ := add_zero_form g (j * 8)
  have hcell : ∀ i, i < 8 → w.cell? ⟨g, j * 8 + i, none⟩ = (x.cells vl vf)[i]? := fun i hi => by
    rw [blk_cell hg, ← he, List.getElem?_take_of_lt hi, List.getElem?_drop, Array.getElem?_toList]
  have q := hcs
  unfold JV.cells at q
  obtain ⟨q0, q1, q2, q3, q4, q5, q6, q7, _⟩ := q
  rw [f1, f2] at q6 q7
  have h6 : some vl = some (Value.slice A6 x.list.length c6) := (hcell 6 (by omega)).symm.trans q6
  have h7 : some vf = some (Value.slice A7 x.fields.length c7) := (hcell 7 (by omega)).symm.trans q7
  injection h6 with h6
  injection h7 with h7
  subst h6 h7
  exact ⟨_, x, A6, c6, A7, c7, Sj, rfl, hx, hcs, kV_mkK l6 g6 l7 g7, he, he ▸ hA, hS⟩
theorem at_FA {w : World} {A : Option Addr} {n c g : Nat} {xs : List JF} {cur : Array Value} {Se : List Nat} (hC : kF.C w A n xs) (hrow : RowBlk w 69 9 (.slice A n c) xs.length g cur) (hL : APF w xs cur.toList Se) (j : Nat) (hj : j < n) : ∃ ad x A6 c6 A7 c7 Sj, A = some ad ∧ xs[j]? = some x ∧ CellsAt w (ad.add (j * 9)) 0 (.string x.name :: x.value.cells (.slice A6 x.value.list.length c6) (.slice A7 x.value.fields.length c7)) ∧
    kV.K w x.value (x.value.cells (.slice A6 x.value.list.length c6) (.slice A7 x.value.fields.length c7)) ∧ (cur.toList.drop (j * 9 + 1)).take 8 = x.value.cells (.slice A6 x.value.list.length c6) (.slice A7 x.value.fields.length c7) ∧ AP w x.value (x.value.cells (.slice A6 x.value.list.length c6) (.slice A7 x.value.fields.length c7)) Sj ∧ ∀ q ∈ Sj, q ∈ Se := by
  obtain ⟨ad, x, A6, c6, A7, c7, rfl, hx, hcs, l6, g6, l7, g7⟩ := at_F hC j hj
  obtain ⟨Sj, hA, hS⟩ := APF_at xs j x hL hx
  obtain ⟨cap, e1, hg, _⟩ := hrow
  injection e1 with e1 _ _
  injection e1 with e1
  subst e1
  obtain ⟨vl, vf, he⟩ := AP_cells hA
  obtain ⟨f1, f2⟩ := add_zero_form g (j * 9)
  have hcell : ∀ i, i < 8 → w.cell? ⟨g, j * 9 + (i + 1), none⟩ = (x.value.cells vl vf)[i]? := fun i hi => by
    rw [blk_cell hg, ← he, List.getElem?_take_of_lt hi, List.getElem?_drop, Array.getElem?_toList]
    congr 1
    omega
  have q := hcs
  unfold JV.cells at q
  obtain ⟨q0, q1, q2, q3, q4, q5, q6, q7, q8, _⟩ := q
  rw [f1, f2] at q7 q8
  have h6 : some vl = some (Value.slice A6 x.value.list.length c6) := (hcell 6 (by omega)).symm.trans q7
  have h7 : some vf = some (Value.slice A7 x.value.fields.length c7) := (hcell 7 (by omega)).symm.trans q8
  injection h6 with h6
  injection h7 with h7
  subst h6 h7
  exact ⟨_, x, A6, c6, A7, c7, Sj, rfl, hx, hcs, kV_mkK l6 g6 l7 g7, he, he ▸ hA, hS⟩
theorem own_lower1 {w : World} {base base' e n : Nat} {v : Value} {L : List Value} (h : w.ownsRow base e 1 v n L) (hb : base' ≤ base) : w.ownsRow base' e 1 v n L := by
  refine ⟨h.1, ?_⟩
  rcases h.2 with h2 | ⟨g, c, cur, h1, hgb, h3⟩
  · exact .inl h2
  · exact .inr ⟨g, c, cur, h1, Nat.le_trans hb hgb, h3⟩
theorem slice_one {q : TypeId} {sz B : Nat} {w : World} {v : Value} (h : IsRow w q sz B v) : v.oneCell' = true := by
  rcases h with rfl | ⟨n, g, cur, ⟨c, rfl, _⟩, _⟩
  · rfl
  · rfl

def ListsOK (x : JV) : Prop := ∀ (w : World) (cs : List Value) (S : List Nat), kV.K w x cs → AP w x cs S → x.wt ≤ 1073741824 → x.ints →
  Calls Tryz.prog 40 #[.agg cs.toArray] w fun e w' => ∃ v, e = .returned v ∧ w'.ownsRow w.heap.size 24 1 v (lsV w x cs).length (lsV w x cs) ∧ Below w.heap.size w w'
set_option maxRecDepth 100000 in
set_option maxHeartbeats 16000000 in
theorem rlists_step (w : World) (k : Int) (t ng : Bool) (ds tx : ByteArray) (ex : Int) (A B : Option Addr) (nl c nf d : Nat) (S : List Nat) (xs : List JV) (fs : List JF) (hC : kV.C w A nl xs) (hCf : kF.C w B nf fs) (hAP : AP w (.mk k t ng ds ex tx xs fs) [.int .i64 k, .bool t, .bool ng, .string ds, .int .i64 ex, .string tx, .slice A nl c, .slice B nf d] S) (hok : ∀ y ∈ xs, ListsOK y) (hokf : ∀ g ∈ fs, ListsOK g.value) (hwt : JV.wtL xs + JV.wtF fs ≤ 1073741823) (hil : JV.intsL xs) (hif : JV.intsF fs) :
    Calls Tryz.prog 40 #[.agg #[.int .i64 k, .bool t, .bool ng, .string ds, .int .i64 ex, .string tx, .slice A nl c, .slice B nf d]] w fun e w' => ∃ v, e = .returned v ∧ w'.ownsRow w.heap.size 24 1 v (.slice A nl c :: (lsL w xs (rowCells w (.slice A nl c)) ++ lsF w fs (rowCells w (.slice B nf d)))).length (.slice A nl c :: (lsL w xs (rowCells w (.slice A nl c)) ++ lsF w fs (rowCells w (.slice B nf d)))) ∧ Below w.heap.size w w' := by
  have hlenL := hC.1
  have hlenF := hCf.1
  have hllL := wtL_len xs
  have hllF := wtF_len fs
  rw [AP] at hAP
  obtain ⟨vl, vf, Sl, Sf, hcs, h2, h3, _⟩ := hAP
  unfold JV.cells at hcs
  injection hcs with _ hcs
  injection hcs with _ hcs
  injection hcs with _ hcs
  injection hcs with _ hcs
  injection hcs with _ hcs
  injection hcs with _ hcs
  injection hcs with e6 hcs
  injection hcs with e7 _
  subst e6 e7
  have hpl : 0 < nl → ∃ g cur Se, RowBlk w 27 8 (.slice A nl c) xs.length g cur ∧ APL w xs cur.toList Se := fun hn => by
    rcases h2 with ⟨_, he, _⟩ | ⟨g, cur, Se, p1, p2, _⟩
    · rw [he] at hlenL; simp at hlenL; omega
    · exact ⟨g, cur, Se, p1, p2⟩
  have hpf : 0 < nf → ∃ g cur Se, RowBlk w 69 9 (.slice B nf d) fs.length g cur ∧ APF w fs cur.toList Se := fun hn => by
    rcases h3 with ⟨_, he, _⟩ | ⟨g, cur, Se, p1, p2, _⟩
    · rw [he] at hlenF; simp at hlenF; omega
    · exact ⟨g, cur, Se, p1, p2⟩
  obtain ⟨_, SeL, aL, _⟩ := part_L (A := APL w) h2 (by rw [APL])
  obtain ⟨_, SeF, aF, _⟩ := part_L (A := APF w) h3 (by rw [APF])
  have hlb : ∀ j, j ≤ nl → (.slice A nl c :: lsL w (xs.take j) (rowCells w (.slice A nl c))).length ≤ 1 + (JV.wtL xs + JV.wtF fs) := fun j _ => by
    have h1 := lsL_take_le w xs j (rowCells w (.slice A nl c))
    have h2 := (APL_tree xs aL).2.2.2.1
    rw [List.length_cons]
    omega
  have hlbF : ∀ j, j ≤ nf → (.slice A nl c :: (lsL w xs (rowCells w (.slice A nl c)) ++ lsF w (fs.take j) (rowCells w (.slice B nf d)))).length ≤ 1 + (JV.wtL xs + JV.wtF fs) := fun j _ => by
    have h1 := lsF_take_le w fs j (rowCells w (.slice B nf d))
    have h2 := (APL_tree xs aL).2.2.2.1
    have h3 := (APF_tree fs aF).2.2.2.1
    rw [List.length_cons, List.length_append]
    omega
  clear h2 h3 aL aF
  have hB1 := (Below.refl w.heap.size w).alloc (Nat.le_refl _) (.cells #[.int .i64 k, .bool t, .bool ng, .string ds, .int .i64 ex, .string tx, .slice A nl c, .slice B nf d] 27)
  have e0 := heap_alloc_new w (.cells #[.int .i64 k, .bool t, .bool ng, .string ds, .int .i64 ex, .string tx, .slice A nl c, .slice B nf d] 27)
  have hc0 := cellAll e0
  have hnl : nl ≤ 1073741823 := by omega
  have hnf : nf ≤ 1073741823 := by omega
  replace hpl := Aside0.mk hpl
  replace hpf := Aside0.mk hpf
  replace hlenL := Aside0.mk hlenL
  replace hlenF := Aside0.mk hlenF
  replace hB1 := Aside0.mk hB1
  replace e0 := Aside0.mk e0
  go_enter Tryz.func40, Tryz.ntmps40
  go_wp2_with fail
  obtain ⟨W1, hW1⟩ : ∃ W1, w.alloc (.cells #[.int .i64 k, .bool t, .bool ng, .string ds, .int .i64 ex, .string tx, .slice A nl c, .slice B nf d] 27) = W1 := ⟨_, rfl⟩
  have hs1 : W1.heap.size = w.heap.size + 1 := by rw [← hW1]; simp
  rw [hW1] at hB1 e0 hc0 ⊢
  have hO1 : (W1.alloc (.cells #[.slice A nl c] 24)).ownsRow W1.heap.size 24 1 (.slice (some ⟨W1.heap.size, 0, none⟩) 1 1) 1 [.slice A nl c] := ⟨rfl, .inr ⟨W1.heap.size, 1, _, rfl, Nat.le_refl _, heap_alloc_new W1 _, Nat.le_refl _, by decide, rfl, rfl⟩⟩
  have hBa := (Below.refl W1.heap.size W1).alloc (Nat.le_refl _) (.cells #[.slice A nl c] 24)
  rw [hs1] at hO1
  clear hW1 hc0
  replace hO1 := Aside0.mk hO1
  replace hBa := Aside0.mk hBa
  replace hs1 := Aside0.mk hs1
  go_loopw [3, 4] (fun u3 i wr => ∃ j : Nat, i = .int .i64 j ∧ j ≤ nl ∧ wr.ownsRow W1.heap.size 24 1 u3 (.slice A nl c :: lsL w (xs.take j) (rowCells w (.slice A nl c))).length (.slice A nl c :: lsL w (xs.take j) (rowCells w (.slice A nl c))) ∧ Below W1.heap.size W1 wr) (fun _ i _ => nl - (intOf i).toNat)
  case atStart =>
    refine ⟨0, rfl, Nat.zero_le _, ?_, hBa.out⟩
    rw [List.take_zero, lsL, hs1.out]
    exact hO1.out
  case round =>
    have hs1' := hs1.out
    obtain ⟨j, rfl, hj, hO, hB⟩ := hrel
    have hb0 := (hB.block w.heap.size (by omega)).trans e0.out
    have hc0 := cellAll hb0
    by_cases hlt : j < nl
    · obtain ⟨g, cur, Se, hrowL, hAL⟩ := hpl.out (by omega)
      obtain ⟨ad, x, A6, c6, A7, c7, Sj, rfl, hx, hcs, hK, hdt, hA, hSj⟩ := at_VA hC hrowL hAL j hlt
      unfold JV.cells at hcs hK hdt hA
      obtain ⟨q0, q1, q2, q3, q4, q5, q6, q7, _⟩ := hcs
      have hxm : x ∈ xs := List.mem_of_getElem? hx
      have hwx := wt_memL hxm
      have hix := ints_memL hxm hil
      have hox := hok x hxm
      have hsn := lsL_snoc w xs j x (rowCells w (.slice (some ad) nl c)) hx
      have hdt2 : ((rowCells w (.slice (some ad) nl c)).drop (j * 8)).take 8 = [.int .i64 x.kind, .bool x.truth, .bool x.neg, .string x.digits, .int .i64 x.exp, .string x.text, .slice A6 x.list.length c6, .slice A7 x.fields.length c7] := by rw [hrowL.cells]; exact hdt
      rw [hdt2] at hsn
      have hlow : ∀ W, Below W1.heap.size W1 W → Below w.heap.size w W := fun W hb => hB1.out.trans (hb.mono hB1.out.size)
      have r0 := pw_cell_below (hlow _ hB) q0
      have r1 := pw_cell_below (hlow _ hB) q1
      have r2 := pw_cell_below (hlow _ hB) q2
      have r3 := pw_cell_below (hlow _ hB) q3
      have r4 := pw_cell_below (hlow _ hB) q4
      have r5 := pw_cell_below (hlow _ hB) q5
      have r6 := pw_cell_below (hlow _ hB) q6
      have r7 := pw_cell_below (hlow _ hB) q7
      have hmv := ls_move x hA (W' := wr) (fun q hq => (hlow _ hB).block q (AP_lt x hA q hq))
      have cL := hox _ _ Sj (kV.K_below (hlow _ hB) hK) (AP_move x hA (fun q hq => (hlow _ hB).block q (AP_lt x hA q hq))) (by omega) hix
      rw [hmv.1] at cL
      have htr := AP_tree x hA
      have hlL := htr.2.2.2.1
      have hrows := htr.1
      have hlen1 := lsV_pos w x [.int .i64 x.kind, .bool x.truth, .bool x.neg, .string x.digits, .int .i64 x.exp, .string x.text, .slice A6 x.list.length c6, .slice A7 x.fields.length c7]
      generalize (lsV w x [.int .i64 x.kind, .bool x.truth, .bool x.neg, .string x.digits, .int .i64 x.exp, .string x.text, .slice A6 x.list.length c6, .slice A7 x.fields.length c7]) = L at hsn cL hlL hrows hlen1
      generalize hm9 : L.length = m at cL hlL hlen1
      have hjI : (j : Int) < (nl : Int) := by omega
      have hj0 : (0 : Int) ≤ (j : Int) := by omega
      have hbound : (.slice (some ad) nl c :: lsL w (xs.take j) (rowCells w (.slice (some ad) nl c))).length ≤ 1 + (JV.wtL xs + JV.wtF fs) := hlb j (by omega)
      replace hO := Aside0.mk hO
      replace cL := Aside0.mk cL
      replace hsn := Aside0.mk hsn
      replace hm9 := Aside0.mk hm9
      replace hrows := Aside0.mk hrows
      replace hbound := Aside0.mk hbound
      clear hdt2 hxm q0 q1 q2 q3 q4 q5 q6 q7 hmv htr hA hK hdt hSj hb0
      go_wp2_with (first
        | ((with_reducible refine gate_builtin (b := .append) (xs := #[.tmp 16, .tmp 22]) rfl ?_); at_builtin; refine rows_append (w0 := w4) W1.heap.size rfl (.tmp 16) (.tmp 22) 33 24 (.slice none 0 0) 24 rfl Tryz.underlying33 infoLL rfl (by omega) _ (.slice (some ad) nl c :: lsL w (xs.take j) (rowCells w (.slice (some ad) nl c))) L ⟨gL, 0, none⟩ m cL9 rfl rfl hO4.out hm9.out hcellL.out (fun u hu => slice_one (hrows.out u hu)) (Below.refl _ _) hs4 (by have := hbound.out; omega) ?_; intro v5 w5 hO5 hB5 hg5; replace hO5 := Aside0.mk hO5; have hB6 := Aside0.mk (hL4.out.trans hB5))
        | (go_at_call 40; refine cL.out.mono ?_; clear cL; rintro e w4 ⟨v4, rfl, hO9, hb4⟩; obtain ⟨gL, cL9, rfl, hgb9, hcap9, hcellL⟩ := own_cells hO9 hlen1; have hO4 := Aside0.mk (pw_own_below hO.out hb4); have hL4 := Aside0.mk (hB.trans (hb4.mono hB.size)); have hs4 : W1.heap.size ≤ w4.heap.size := hL4.out.size; replace hcellL := Aside0.mk hcellL; clear hO9))
      go_roundw
      case measure => first | (simp [intOf]; done) | (simp [intOf]; omega)
      refine ⟨j + 1, by go_num, by omega, ?_, hB6.out⟩
      rw [hsn.out.1]
      exact hO5.out
    · obtain rfl : nl = j := by omega
      have hO' := hO
      rw [← hlenL.out, List.take_length, hlenL.out] at hO'
      replace hO' := Aside0.mk hO'
      replace hB := Aside0.mk hB
      clear hO hb0
      go_wp2_with fail
      clear hc0
      go_loopw [3, 5] (fun u3 i wr => ∃ j : Nat, i = .int .i64 j ∧ j ≤ nf ∧ wr.ownsRow W1.heap.size 24 1 u3 (.slice A nl c :: (lsL w xs (rowCells w (.slice A nl c)) ++ lsF w (fs.take j) (rowCells w (.slice B nf d)))).length (.slice A nl c :: (lsL w xs (rowCells w (.slice A nl c)) ++ lsF w (fs.take j) (rowCells w (.slice B nf d)))) ∧ Below W1.heap.size W1 wr) (fun _ i _ => nf - (intOf i).toNat)
      case atStart =>
        refine ⟨0, rfl, Nat.zero_le _, ?_, hB.out⟩
        rw [List.take_zero, lsF, List.append_nil]
        exact hO'.out
      case round =>
        obtain ⟨j, rfl, hj, hO, hB⟩ := hrel
        have hb0 := (hB.block w.heap.size (by omega)).trans e0.out
        have hc0 := cellAll hb0
        by_cases hlt : j < nf
        · obtain ⟨g, cur, Se, hrowF, hAF⟩ := hpf.out (by omega)
          obtain ⟨ad, x, A6, c6, A7, c7, Sj, rfl, hx, hcs, hK, hdt, hA, hSj⟩ := at_FA hCf hrowF hAF j hlt
          unfold JV.cells at hcs hK hdt hA
          obtain ⟨qn, q0, q1, q2, q3, q4, q5, q6, q7, _⟩ := hcs
          have hxm : x ∈ fs := List.mem_of_getElem? hx
          have hwx := wt_memF hxm
          have hix := ints_memF hxm hif
          have hox := hokf x hxm
          have hsn := lsF_snoc w fs j x (rowCells w (.slice (some ad) nf d)) hx
          have hdt2 : ((rowCells w (.slice (some ad) nf d)).drop (j * 9 + 1)).take 8 = [.int .i64 x.value.kind, .bool x.value.truth, .bool x.value.neg, .string x.value.digits, .int .i64 x.value.exp, .string x.value.text, .slice A6 x.value.list.length c6, .slice A7 x.value.fields.length c7] := by rw [hrowF.cells]; exact hdt
          rw [hdt2] at hsn
          have hlow : ∀ W, Below W1.heap.size W1 W → Below w.heap.size w W := fun W hb => hB1.out.trans (hb.mono hB1.out.size)
          have r0 := pw_cell_below (hlow _ hB) q0
          have r1 := pw_cell_below (hlow _ hB) q1
          have r2 := pw_cell_below (hlow _ hB) q2
          have r3 := pw_cell_below (hlow _ hB) q3
          have r4 := pw_cell_below (hlow _ hB) q4
          have r5 := pw_cell_below (hlow _ hB) q5
          have r6 := pw_cell_below (hlow _ hB) q6
          have r7 := pw_cell_below (hlow _ hB) q7
          have hmv := ls_move x.value hA (W' := wr) (fun q hq => (hlow _ hB).block q (AP_lt x.value hA q hq))
          have cL := hox _ _ Sj (kV.K_below (hlow _ hB) hK) (AP_move x.value hA (fun q hq => (hlow _ hB).block q (AP_lt x.value hA q hq))) (by omega) hix
          rw [hmv.1] at cL
          have htr := AP_tree x.value hA
          have hlL := htr.2.2.2.1
          have hrows := htr.1
          have hlen1 := lsV_pos w x.value [.int .i64 x.value.kind, .bool x.value.truth, .bool x.value.neg, .string x.value.digits, .int .i64 x.value.exp, .string x.value.text, .slice A6 x.value.list.length c6, .slice A7 x.value.fields.length c7]
          generalize (lsV w x.value [.int .i64 x.value.kind, .bool x.value.truth, .bool x.value.neg, .string x.value.digits, .int .i64 x.value.exp, .string x.value.text, .slice A6 x.value.list.length c6, .slice A7 x.value.fields.length c7]) = L at hsn cL hlL hrows hlen1
          generalize hm9 : L.length = m at cL hlL hlen1
          have hjI : (j : Int) < (nf : Int) := by omega
          have hj0 : (0 : Int) ≤ (j : Int) := by omega
          have hbound : (.slice A nl c :: (lsL w xs (rowCells w (.slice A nl c)) ++ lsF w (fs.take j) (rowCells w (.slice (some ad) nf d)))).length ≤ 1 + (JV.wtL xs + JV.wtF fs) := hlbF j (by omega)
          replace hO := Aside0.mk hO
          replace cL := Aside0.mk cL
          replace hsn := Aside0.mk hsn
          replace hm9 := Aside0.mk hm9
          replace hrows := Aside0.mk hrows
          replace hbound := Aside0.mk hbound
          clear hdt2 hxm q0 q1 q2 q3 q4 q5 q6 q7 hmv htr hA hK hdt hSj hb0
          go_wp2_with (first
            | ((with_reducible refine gate_builtin (b := .append) (xs := #[.tmp 31, .tmp 38]) rfl ?_); at_builtin; refine rows_append (w0 := w4) W1.heap.size rfl (.tmp 31) (.tmp 38) 33 24 (.slice none 0 0) 24 rfl Tryz.underlying33 infoLL rfl (by omega) _ (.slice A nl c :: (lsL w xs (rowCells w (.slice A nl c)) ++ lsF w (fs.take j) (rowCells w (.slice (some ad) nf d)))) L ⟨gL, 0, none⟩ m cL9 rfl rfl hO4.out hm9.out hcellL.out (fun u hu => slice_one (hrows.out u hu)) (Below.refl _ _) hs4 (by have := hbound.out; omega) ?_; intro v5 w5 hO5 hB5 hg5; replace hO5 := Aside0.mk hO5; have hB6 := Aside0.mk (hL4.out.trans hB5))
            | (go_at_call 40; refine cL.out.mono ?_; clear cL; rintro e w4 ⟨v4, rfl, hO9, hb4⟩; obtain ⟨gL, cL9, rfl, hgb9, hcap9, hcellL⟩ := own_cells hO9 hlen1; have hO4 := Aside0.mk (pw_own_below hO.out hb4); have hL4 := Aside0.mk (hB.trans (hb4.mono hB.size)); have hs4 : W1.heap.size ≤ w4.heap.size := hL4.out.size; replace hcellL := Aside0.mk hcellL; clear hO9))
          go_roundw
          case measure => first | (simp [intOf]; done) | (simp [intOf]; omega)
          refine ⟨j + 1, by go_num, by omega, ?_, hB6.out⟩
          rw [hsn.out.1, ← List.append_assoc]
          exact hO5.out
        · obtain rfl : nf = j := by omega
          have hO2 := hO
          rw [← hlenF.out, List.take_length, hlenF.out] at hO2
          have hL0 := Aside0.mk (hB1.out.trans (hB.mono hB1.out.size))
          replace hO2 := Aside0.mk hO2
          replace hB := Aside0.mk hB
          clear hO hb0
          go_wp2_with fail
          go_ret
          exact ⟨_, rfl, own_lower1 hO2.out (by have := hs1.out; omega), hL0.out⟩
theorem rlists_ok_step (x : JV) (hl : ∀ y ∈ x.list, ListsOK y) (hf : ∀ f ∈ x.fields, ListsOK f.value) : ListsOK x := by
  intro w cs S hK hA hwt hin
  obtain ⟨A, c, B, d, rfl, hlc, hCl, hfc, hCf⟩ := kV_open hK
  obtain ⟨k, t, ng, ds, ex, tx, l, f⟩ := x
  simp only [JV.list, JV.fields] at *
  rw [JV.wt] at hwt
  rw [JV.ints] at hin
  obtain ⟨hik, hie, hil, hif⟩ := hin
  rw [lsV_cells]
  exact rlists_step w k t ng ds tx ex A B _ c _ d S l f hCl hCf hA hl hf (by omega) hil hif
theorem rlists_ok_all : ∀ (n : Nat) (x : JV), x.wt ≤ n → ListsOK x
  | 0, .mk k t ng ds ex tx l f, h => by rw [JV.wt] at h; omega
  | n + 1, .mk k t ng ds ex tx l f, h => by
    rw [JV.wt] at h
    exact rlists_ok_step _ (fun y hy => rlists_ok_all n y (by have := wt_memL hy; simp only [JV.list] at this; omega)) (fun g hg => rlists_ok_all n _ (by have := wt_memF hg; simp only [JV.fields] at this; omega))
theorem rlists_any (x : JV) : ListsOK x := rlists_ok_all _ x (Nat.le_refl _)

def FieldsOK (x : JV) : Prop := ∀ (w : World) (cs : List Value) (S : List Nat), kV.K w x cs → AP w x cs S → x.wt ≤ 1073741824 → x.ints →
  Calls Tryz.prog 41 #[.agg cs.toArray] w fun e w' => ∃ v, e = .returned v ∧ w'.ownsRow w.heap.size 25 1 v (fsV w x cs).length (fsV w x cs) ∧ Below w.heap.size w w'
set_option maxRecDepth 100000 in
set_option maxHeartbeats 16000000 in
theorem rfields_step (w : World) (k : Int) (t ng : Bool) (ds tx : ByteArray) (ex : Int) (A B : Option Addr) (nl c nf d : Nat) (S : List Nat) (xs : List JV) (fs : List JF) (hC : kV.C w A nl xs) (hCf : kF.C w B nf fs) (hAP : AP w (.mk k t ng ds ex tx xs fs) [.int .i64 k, .bool t, .bool ng, .string ds, .int .i64 ex, .string tx, .slice A nl c, .slice B nf d] S) (hok : ∀ y ∈ xs, FieldsOK y) (hokf : ∀ g ∈ fs, FieldsOK g.value) (hwt : JV.wtL xs + JV.wtF fs ≤ 1073741823) (hil : JV.intsL xs) (hif : JV.intsF fs) :
    Calls Tryz.prog 41 #[.agg #[.int .i64 k, .bool t, .bool ng, .string ds, .int .i64 ex, .string tx, .slice A nl c, .slice B nf d]] w fun e w' => ∃ v, e = .returned v ∧ w'.ownsRow w.heap.size 25 1 v (.slice B nf d :: (fsL w xs (rowCells w (.slice A nl c)) ++ fsF w fs (rowCells w (.slice B nf d)))).length (.slice B nf d :: (fsL w xs (rowCells w (.slice A nl c)) ++ fsF w fs (rowCells w (.slice B nf d)))) ∧ Below w.heap.size w w' := by
  have hlenL := hC.1
  have hlenF := hCf.1
  have hllL := wtL_len xs
  have hllF := wtF_len fs
  rw [AP] at hAP
  obtain ⟨vl, vf, Sl, Sf, hcs, h2, h3, _⟩ := hAP
  unfold JV.cells at hcs
  injection hcs with _ hcs
  injection hcs with _ hcs
  injection hcs with _ hcs
  injection hcs with _ hcs
  injection hcs with _ hcs
  injection hcs with _ hcs
  injection hcs with e6 hcs
  injection hcs with e7 _
  subst e6 e7
  have hpl : 0 < nl → ∃ g cur Se, RowBlk w 27 8 (.slice A nl c) xs.length g cur ∧ APL w xs cur.toList Se := fun hn => by
    rcases h2 with ⟨_, he, _⟩ | ⟨g, cur, Se, p1, p2, _⟩
    · rw [he] at hlenL; simp at hlenL; omega
    · exact ⟨g, cur, Se, p1, p2⟩
  have hpf : 0 < nf → ∃ g cur Se, RowBlk w 69 9 (.slice B nf d) fs.length g cur ∧ APF w fs cur.toList Se := fun hn => by
    rcases h3 with ⟨_, he, _⟩ | ⟨g, cur, Se, p1, p2, _⟩
    · rw [he] at hlenF; simp at hlenF; omega
    · exact ⟨g, cur, Se, p1, p2⟩
  obtain ⟨_, SeL, aL, _⟩ := part_L (A := APL w) h2 (by rw [APL])
  obtain ⟨_, SeF, aF, _⟩ := part_L (A := APF w) h3 (by rw [APF])
  have hlb : ∀ j, j ≤ nl → (.slice B nf d :: fsL w (xs.take j) (rowCells w (.slice A nl c))).length ≤ 1 + (JV.wtL xs + JV.wtF fs) := fun j _ => by
    have h1 := fsL_take_le w xs j (rowCells w (.slice A nl c))
    have h2 := (APL_tree xs aL).2.2.2.2
    rw [List.length_cons]
    omega
  have hlbF : ∀ j, j ≤ nf → (.slice B nf d :: (fsL w xs (rowCells w (.slice A nl c)) ++ fsF w (fs.take j) (rowCells w (.slice B nf d)))).length ≤ 1 + (JV.wtL xs + JV.wtF fs) := fun j _ => by
    have h1 := fsF_take_le w fs j (rowCells w (.slice B nf d))
    have h2 := (APL_tree xs aL).2.2.2.2
    have h3 := (APF_tree fs aF).2.2.2.2
    rw [List.length_cons, List.length_append]
    omega
  clear h2 h3 aL aF
  have hB1 := (Below.refl w.heap.size w).alloc (Nat.le_refl _) (.cells #[.int .i64 k, .bool t, .bool ng, .string ds, .int .i64 ex, .string tx, .slice A nl c, .slice B nf d] 27)
  have e0 := heap_alloc_new w (.cells #[.int .i64 k, .bool t, .bool ng, .string ds, .int .i64 ex, .string tx, .slice A nl c, .slice B nf d] 27)
  have hc0 := cellAll e0
  have hnl : nl ≤ 1073741823 := by omega
  have hnf : nf ≤ 1073741823 := by omega
  replace hpl := Aside0.mk hpl
  replace hpf := Aside0.mk hpf
  replace hlenL := Aside0.mk hlenL
  replace hlenF := Aside0.mk hlenF
  replace hB1 := Aside0.mk hB1
  replace e0 := Aside0.mk e0
  go_enter Tryz.func41, Tryz.ntmps41
  go_wp2_with fail
  obtain ⟨W1, hW1⟩ : ∃ W1, w.alloc (.cells #[.int .i64 k, .bool t, .bool ng, .string ds, .int .i64 ex, .string tx, .slice A nl c, .slice B nf d] 27) = W1 := ⟨_, rfl⟩
  have hs1 : W1.heap.size = w.heap.size + 1 := by rw [← hW1]; simp
  rw [hW1] at hB1 e0 hc0 ⊢
  have hO1 : (W1.alloc (.cells #[.slice B nf d] 25)).ownsRow W1.heap.size 25 1 (.slice (some ⟨W1.heap.size, 0, none⟩) 1 1) 1 [.slice B nf d] := ⟨rfl, .inr ⟨W1.heap.size, 1, _, rfl, Nat.le_refl _, heap_alloc_new W1 _, Nat.le_refl _, by decide, rfl, rfl⟩⟩
  have hBa := (Below.refl W1.heap.size W1).alloc (Nat.le_refl _) (.cells #[.slice B nf d] 25)
  rw [hs1] at hO1
  clear hW1 hc0
  replace hO1 := Aside0.mk hO1
  replace hBa := Aside0.mk hBa
  replace hs1 := Aside0.mk hs1
  go_loopw [3, 4] (fun u3 i wr => ∃ j : Nat, i = .int .i64 j ∧ j ≤ nl ∧ wr.ownsRow W1.heap.size 25 1 u3 (.slice B nf d :: fsL w (xs.take j) (rowCells w (.slice A nl c))).length (.slice B nf d :: fsL w (xs.take j) (rowCells w (.slice A nl c))) ∧ Below W1.heap.size W1 wr) (fun _ i _ => nl - (intOf i).toNat)
  case atStart =>
    refine ⟨0, rfl, Nat.zero_le _, ?_, hBa.out⟩
    rw [List.take_zero, fsL, hs1.out]
    exact hO1.out
  case round =>
    have hs1' := hs1.out
    obtain ⟨j, rfl, hj, hO, hB⟩ := hrel
    have hb0 := (hB.block w.heap.size (by omega)).trans e0.out
    have hc0 := cellAll hb0
    by_cases hlt : j < nl
    · obtain ⟨g, cur, Se, hrowL, hAL⟩ := hpl.out (by omega)
      obtain ⟨ad, x, A6, c6, A7, c7, Sj, rfl, hx, hcs, hK, hdt, hA, hSj⟩ := at_VA hC hrowL hAL j hlt
      unfold JV.cells at hcs hK hdt hA
      obtain ⟨q0, q1, q2, q3, q4, q5, q6, q7, _⟩ := hcs
      have hxm : x ∈ xs := List.mem_of_getElem? hx
      have hwx := wt_memL hxm
      have hix := ints_memL hxm hil
      have hox := hok x hxm
      have hsn := lsL_snoc w xs j x (rowCells w (.slice (some ad) nl c)) hx
      have hdt2 : ((rowCells w (.slice (some ad) nl c)).drop (j * 8)).take 8 = [.int .i64 x.kind, .bool x.truth, .bool x.neg, .string x.digits, .int .i64 x.exp, .string x.text, .slice A6 x.list.length c6, .slice A7 x.fields.length c7] := by rw [hrowL.cells]; exact hdt
      rw [hdt2] at hsn
      have hlow : ∀ W, Below W1.heap.size W1 W → Below w.heap.size w W := fun W hb => hB1.out.trans (hb.mono hB1.out.size)
      have r0 := pw_cell_below (hlow _ hB) q0
      have r1 := pw_cell_below (hlow _ hB) q1
      have r2 := pw_cell_below (hlow _ hB) q2
      have r3 := pw_cell_below (hlow _ hB) q3
      have r4 := pw_cell_below (hlow _ hB) q4
      have r5 := pw_cell_below (hlow _ hB) q5
      have r6 := pw_cell_below (hlow _ hB) q6
      have r7 := pw_cell_below (hlow _ hB) q7
      have hmv := ls_move x hA (W' := wr) (fun q hq => (hlow _ hB).block q (AP_lt x hA q hq))
      have cL := hox _ _ Sj (kV.K_below (hlow _ hB) hK) (AP_move x hA (fun q hq => (hlow _ hB).block q (AP_lt x hA q hq))) (by omega) hix
      rw [hmv.2] at cL
      have htr := AP_tree x hA
      have hlL := htr.2.2.2.2
      have hrows := htr.2.1
      have hlen1 := fsV_pos w x [.int .i64 x.kind, .bool x.truth, .bool x.neg, .string x.digits, .int .i64 x.exp, .string x.text, .slice A6 x.list.length c6, .slice A7 x.fields.length c7]
      generalize (fsV w x [.int .i64 x.kind, .bool x.truth, .bool x.neg, .string x.digits, .int .i64 x.exp, .string x.text, .slice A6 x.list.length c6, .slice A7 x.fields.length c7]) = L at hsn cL hlL hrows hlen1
      generalize hm9 : L.length = m at cL hlL hlen1
      have hjI : (j : Int) < (nl : Int) := by omega
      have hj0 : (0 : Int) ≤ (j : Int) := by omega
      have hbound : (.slice B nf d :: fsL w (xs.take j) (rowCells w (.slice (some ad) nl c))).length ≤ 1 + (JV.wtL xs + JV.wtF fs) := hlb j (by omega)
      replace hO := Aside0.mk hO
      replace cL := Aside0.mk cL
      replace hsn := Aside0.mk hsn
      replace hm9 := Aside0.mk hm9
      replace hrows := Aside0.mk hrows
      replace hbound := Aside0.mk hbound
      clear hdt2 hxm q0 q1 q2 q3 q4 q5 q6 q7 hmv htr hA hK hdt hSj hb0
      go_wp2_with (first
        | ((with_reducible refine gate_builtin (b := .append) (xs := #[.tmp 16, .tmp 22]) rfl ?_); at_builtin; refine rows_append (w0 := w4) W1.heap.size rfl (.tmp 16) (.tmp 22) 34 25 (.slice none 0 0) 24 rfl Tryz.underlying34 infoFF rfl (by omega) _ (.slice B nf d :: fsL w (xs.take j) (rowCells w (.slice (some ad) nl c))) L ⟨gL, 0, none⟩ m cL9 rfl rfl hO4.out hm9.out hcellL.out (fun u hu => slice_one (hrows.out u hu)) (Below.refl _ _) hs4 (by have := hbound.out; omega) ?_; intro v5 w5 hO5 hB5 hg5; replace hO5 := Aside0.mk hO5; have hB6 := Aside0.mk (hL4.out.trans hB5))
        | (go_at_call 41; refine cL.out.mono ?_; clear cL; rintro e w4 ⟨v4, rfl, hO9, hb4⟩; obtain ⟨gL, cL9, rfl, hgb9, hcap9, hcellL⟩ := own_cells hO9 hlen1; have hO4 := Aside0.mk (pw_own_below hO.out hb4); have hL4 := Aside0.mk (hB.trans (hb4.mono hB.size)); have hs4 : W1.heap.size ≤ w4.heap.size := hL4.out.size; replace hcellL := Aside0.mk hcellL; clear hO9))
      go_roundw
      case measure => first | (simp [intOf]; done) | (simp [intOf]; omega)
      refine ⟨j + 1, by go_num, by omega, ?_, hB6.out⟩
      rw [hsn.out.2]
      exact hO5.out
    · obtain rfl : nl = j := by omega
      have hO' := hO
      rw [← hlenL.out, List.take_length, hlenL.out] at hO'
      replace hO' := Aside0.mk hO'
      replace hB := Aside0.mk hB
      clear hO hb0
      go_wp2_with fail
      clear hc0
      go_loopw [3, 5] (fun u3 i wr => ∃ j : Nat, i = .int .i64 j ∧ j ≤ nf ∧ wr.ownsRow W1.heap.size 25 1 u3 (.slice B nf d :: (fsL w xs (rowCells w (.slice A nl c)) ++ fsF w (fs.take j) (rowCells w (.slice B nf d)))).length (.slice B nf d :: (fsL w xs (rowCells w (.slice A nl c)) ++ fsF w (fs.take j) (rowCells w (.slice B nf d)))) ∧ Below W1.heap.size W1 wr) (fun _ i _ => nf - (intOf i).toNat)
      case atStart =>
        refine ⟨0, rfl, Nat.zero_le _, ?_, hB.out⟩
        rw [List.take_zero, fsF, List.append_nil]
        exact hO'.out
      case round =>
        obtain ⟨j, rfl, hj, hO, hB⟩ := hrel
        have hb0 := (hB.block w.heap.size (by omega)).trans e0.out
        have hc0 := cellAll hb0
        by_cases hlt : j < nf
        · obtain ⟨g, cur, Se, hrowF, hAF⟩ := hpf.out (by omega)
          obtain ⟨ad, x, A6, c6, A7, c7, Sj, rfl, hx, hcs, hK, hdt, hA, hSj⟩ := at_FA hCf hrowF hAF j hlt
          unfold JV.cells at hcs hK hdt hA
          obtain ⟨qn, q0, q1, q2, q3, q4, q5, q6, q7, _⟩ := hcs
          have hxm : x ∈ fs := List.mem_of_getElem? hx
          have hwx := wt_memF hxm
          have hix := ints_memF hxm hif
          have hox := hokf x hxm
          have hsn := lsF_snoc w fs j x (rowCells w (.slice (some ad) nf d)) hx
          have hdt2 : ((rowCells w (.slice (some ad) nf d)).drop (j * 9 + 1)).take 8 = [.int .i64 x.value.kind, .bool x.value.truth, .bool x.value.neg, .string x.value.digits, .int .i64 x.value.exp, .string x.value.text, .slice A6 x.value.list.length c6, .slice A7 x.value.fields.length c7] := by rw [hrowF.cells]; exact hdt
          rw [hdt2] at hsn
          have hlow : ∀ W, Below W1.heap.size W1 W → Below w.heap.size w W := fun W hb => hB1.out.trans (hb.mono hB1.out.size)
          have r0 := pw_cell_below (hlow _ hB) q0
          have r1 := pw_cell_below (hlow _ hB) q1
          have r2 := pw_cell_below (hlow _ hB) q2
          have r3 := pw_cell_below (hlow _ hB) q3
          have r4 := pw_cell_below (hlow _ hB) q4
          have r5 := pw_cell_below (hlow _ hB) q5
          have r6 := pw_cell_below (hlow _ hB) q6
          have r7 := pw_cell_below (hlow _ hB) q7
          have hmv := ls_move x.value hA (W' := wr) (fun q hq => (hlow _ hB).block q (AP_lt x.value hA q hq))
          have cL := hox _ _ Sj (kV.K_below (hlow _ hB) hK) (AP_move x.value hA (fun q hq => (hlow _ hB).block q (AP_lt x.value hA q hq))) (by omega) hix
          rw [hmv.2] at cL
          have htr := AP_tree x.value hA
          have hlL := htr.2.2.2.2
          have hrows := htr.2.1
          have hlen1 := fsV_pos w x.value [.int .i64 x.value.kind, .bool x.value.truth, .bool x.value.neg, .string x.value.digits, .int .i64 x.value.exp, .string x.value.text, .slice A6 x.value.list.length c6, .slice A7 x.value.fields.length c7]
          generalize (fsV w x.value [.int .i64 x.value.kind, .bool x.value.truth, .bool x.value.neg, .string x.value.digits, .int .i64 x.value.exp, .string x.value.text, .slice A6 x.value.list.length c6, .slice A7 x.value.fields.length c7]) = L at hsn cL hlL hrows hlen1
          generalize hm9 : L.length = m at cL hlL hlen1
          have hjI : (j : Int) < (nf : Int) := by omega
          have hj0 : (0 : Int) ≤ (j : Int) := by omega
          have hbound : (.slice (some ad) nf d :: (fsL w xs (rowCells w (.slice A nl c)) ++ fsF w (fs.take j) (rowCells w (.slice (some ad) nf d)))).length ≤ 1 + (JV.wtL xs + JV.wtF fs) := hlbF j (by omega)
          replace hO := Aside0.mk hO
          replace cL := Aside0.mk cL
          replace hsn := Aside0.mk hsn
          replace hm9 := Aside0.mk hm9
          replace hrows := Aside0.mk hrows
          replace hbound := Aside0.mk hbound
          clear hdt2 hxm q0 q1 q2 q3 q4 q5 q6 q7 hmv htr hA hK hdt hSj hb0
          go_wp2_with (first
            | ((with_reducible refine gate_builtin (b := .append) (xs := #[.tmp 31, .tmp 38]) rfl ?_); at_builtin; refine rows_append (w0 := w4) W1.heap.size rfl (.tmp 31) (.tmp 38) 34 25 (.slice none 0 0) 24 rfl Tryz.underlying34 infoFF rfl (by omega) _ (.slice (some ad) nf d :: (fsL w xs (rowCells w (.slice A nl c)) ++ fsF w (fs.take j) (rowCells w (.slice (some ad) nf d)))) L ⟨gL, 0, none⟩ m cL9 rfl rfl hO4.out hm9.out hcellL.out (fun u hu => slice_one (hrows.out u hu)) (Below.refl _ _) hs4 (by have := hbound.out; omega) ?_; intro v5 w5 hO5 hB5 hg5; replace hO5 := Aside0.mk hO5; have hB6 := Aside0.mk (hL4.out.trans hB5))
            | (go_at_call 41; refine cL.out.mono ?_; clear cL; rintro e w4 ⟨v4, rfl, hO9, hb4⟩; obtain ⟨gL, cL9, rfl, hgb9, hcap9, hcellL⟩ := own_cells hO9 hlen1; have hO4 := Aside0.mk (pw_own_below hO.out hb4); have hL4 := Aside0.mk (hB.trans (hb4.mono hB.size)); have hs4 : W1.heap.size ≤ w4.heap.size := hL4.out.size; replace hcellL := Aside0.mk hcellL; clear hO9))
          go_roundw
          case measure => first | (simp [intOf]; done) | (simp [intOf]; omega)
          refine ⟨j + 1, by go_num, by omega, ?_, hB6.out⟩
          rw [hsn.out.2, ← List.append_assoc]
          exact hO5.out
        · obtain rfl : nf = j := by omega
          have hO2 := hO
          rw [← hlenF.out, List.take_length, hlenF.out] at hO2
          have hL0 := Aside0.mk (hB1.out.trans (hB.mono hB1.out.size))
          replace hO2 := Aside0.mk hO2
          replace hB := Aside0.mk hB
          clear hO hb0
          go_wp2_with fail
          go_ret
          exact ⟨_, rfl, own_lower1 hO2.out (by have := hs1.out; omega), hL0.out⟩
theorem rfields_ok_step (x : JV) (hl : ∀ y ∈ x.list, FieldsOK y) (hf : ∀ f ∈ x.fields, FieldsOK f.value) : FieldsOK x := by
  intro w cs S hK hA hwt hin
  obtain ⟨A, c, B, d, rfl, hlc, hCl, hfc, hCf⟩ := kV_open hK
  obtain ⟨k, t, ng, ds, ex, tx, l, f⟩ := x
  simp only [JV.list, JV.fields] at *
  rw [JV.wt] at hwt
  rw [JV.ints] at hin
  obtain ⟨hik, hie, hil, hif⟩ := hin
  rw [fsV_cells]
  exact rfields_step w k t ng ds tx ex A B _ c _ d S l f hCl hCf hA hl hf (by omega) hil hif
theorem rfields_ok_all : ∀ (n : Nat) (x : JV), x.wt ≤ n → FieldsOK x
  | 0, .mk k t ng ds ex tx l f, h => by rw [JV.wt] at h; omega
  | n + 1, .mk k t ng ds ex tx l f, h => by
    rw [JV.wt] at h
    exact rfields_ok_step _ (fun y hy => rfields_ok_all n y (by have := wt_memL hy; simp only [JV.list] at this; omega)) (fun g hg => rfields_ok_all n _ (by have := wt_memF hg; simp only [JV.fields] at this; omega))
theorem rfields_any (x : JV) : FieldsOK x := rfields_ok_all _ x (Nat.le_refl _)
end Go.Proofs.YtkdeleafgailhaaGreatDoor
end
