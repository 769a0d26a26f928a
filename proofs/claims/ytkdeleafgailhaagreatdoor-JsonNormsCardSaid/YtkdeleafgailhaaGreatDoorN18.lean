/- json's reader: value's closure that reads one element of a list. json's reader: slices.ContainsFunc of a name among fields. json's reader: field: one field of an object. json's reader: value: texts, numbers; the words null, true, false. -/
import Derived.Test.YtkdeleafgailhaaGreatDoorN17
import Derived.Deep.AppendLies
section
set_option linter.unusedVariables false
set_option linter.unusedSimpArgs false
namespace Go.Proofs.YtkdeleafgailhaaGreatDoor
open Go Go.RowKit Go.Proofs.YtkdeleafgailhaaGreatDoorW.PrintWords

theorem infoV2 : (Tryz.prog.info? 27).map (fun i => (i.zero, i.size, i.bytes)) = some (some zV, 8, 112) := by kernel_rfl
/-- What value must give at a depth: to be shown by induction. -/
def ValOK (E : ErrV) (w0 : World) (s : ByteArray) (r : Nat) (o : Nat) (val : Nat → PR JV) : Prop := ∀ (i : Nat) (W : World), RS E w0 s i o r W → Calls Tryz.prog 58 #[.pointer (some ⟨r, 0, none⟩)] W fun e w' => ValGives E w0 s o r W (val i) e w'
/-- The cells of the value under way: a list. -/
def lCells (va : Value) : Array Value := #[.int .i64 4, .bool false, .bool false, .string ⟨#[]⟩, .int .i64 0, .string ⟨#[]⟩, va, .slice none 0 0]
/-- The blocks of value that its closures see: wv: value's first world; vb: the block of the value under way. -/
structure LB (r : Nat) (wv : World) (vb : Nat) (xs : List JV) (W : World) : Prop where
  rb : W.heap[wv.heap.size]? = some (.cells #[.pointer (some ⟨r, 0, none⟩)] 90 (0, 0))
  out : W.heap[wv.heap.size + 1]? = some (.cells nulCells.toArray 27 (0, 0))
  blk : ∃ va, W.heap[vb]? = some (.cells (lCells va) 27 (0, 0)) ∧ kV.R 27 W (vb + 1) (fun _ => True) va xs
  rd : Read r wv W
  lv : wv.heap.size + 2 ≤ vb
  lr : r < wv.heap.size
theorem LB.read {r : Nat} {wv : World} {vb : Nat} {xs : List JV} {W W' : World} (h : LB r wv vb xs W) (hr : Read r W W') : LB r wv vb xs W' := by
  obtain ⟨va, hva, hR⟩ := h.blk
  have hlv := h.lv
  have hlr := h.lr
  have keep : ∀ k o, W.heap[k]? = some o → k ≠ r → W'.heap[k]? = some o := fun k o hk hne => (hr.block k (blk_lt hk) (by intro e; injection e with e; exact hne e)).trans hk
  refine ⟨keep _ _ h.rb (by omega), keep _ _ h.out (by omega), ⟨va, keep _ _ hva (by omega), ?_⟩, h.rd.trans hr, h.lv, h.lr⟩
  exact Kd.R_mono (Kd.R_keep (g := r) (Kd.R_mono (Kd.R_bound hR) (fun k hk => hk.2.1)) ⟨hr.size, fun i hi hne _ => hr.block i hi (by intro e; injection e with e; exact hne e)⟩ (fun k hk => by omega)) (fun _ _ => trivial)

/-- append of a zero element in a region that draws. -/
theorem append_nul {α : Type} (d : Kd α) {ops : Array Oper} {o : Oper} {a : Act} {Q : Exit → Act → World → Prop} {Kc : Act → World → Prop} {W : World} (base : Nat) (hw : Region.wanted o (yielded ops a.tmps) = true) (s x : Operand) (t e : TypeId) (z : Value) (bytes : Nat)
    (ho : o.op = .call { callee := .builtin .append, args := #[s, x], argTypes := #[t, t] }) (ht : Tryz.prog.underlying t = some (.slice e)) (hinfo : (Tryz.prog.info? e).map (fun i => (i.zero, i.size, i.bytes)) = some (some z, d.sz, bytes)) (hz : z.cells.size = d.sz) (hs0 : 0 < d.sz) (hb0 : 0 < bytes)
    (v : Value) (xs : List α) (p : α) (cs : List Value) (hs : a.eval s = v) (hx : a.eval x = .slice (some ⟨W.heap.size, 0, none⟩) 1 1) (hp : d.M W base (fun _ => False) p cs) (HO : d.R e W base (fun _ => True) v xs) (hbase : base ≤ W.heap.size) (hl : (xs.length + 1) * bytes ≤ 140737488355328)
    (h : ∀ v1 w1, d.R e w1 base (fun _ => True) v1 (xs ++ [p]) → Below base W w1 → W.grownBy w1 v.ownBlock → (v1.ownBlock = v.ownBlock ∨ ∃ b, v1.ownBlock = some b ∧ W.heap.size ≤ b) → Kc (a.put o.dst v1) w1) :
    if Region.wanted o (yielded ops a.tmps) = true then Oper.wp Tryz.prog o a (W.alloc (.cells cs.toArray e)).drew Kc Q else Kc (a.put o.dst undef) (W.alloc (.cells cs.toArray e)).drew := by
  have hd : Below W.heap.size W W.drew := (Below.refl _ W).drew
  show if Region.wanted o (yielded ops a.tmps) = true then Oper.wp Tryz.prog o a (W.drew.alloc (.cells cs.toArray e)) Kc Q else Kc (a.put o.dst undef) (W.drew.alloc (.cells cs.toArray e))
  exact Kd.R_append_step d (w0 := W.drew) (W := W.drew) base hw s x t e z bytes ho ht hinfo hz hs0 hb0 v xs p cs (fun _ => True) (fun _ => False) hs hx (Kd.M_below hp hd) (fun _ h => h.elim) (fun _ _ => trivial) (Kd.R_below HO hd) (Below.refl _ _) hbase hl
    (fun v1 w1 h1 h2 h3 h4 => h v1 w1 h1 ⟨h2.os, h2.tape, h2.output, h2.size, h2.block⟩ ⟨h3.os, h3.tape, h3.output, h3.size, h3.block⟩ h4)
theorem M_nul0 (w : World) (base : Nat) : kV.M w base (fun _ => False) JV.nul nulCells := kV_mkM (x := JV.nul) ⟨fun _ h => (by cases h), [], own_nil _ _ _ _, Reps.none _ _⟩ ⟨fun _ h => (by cases h), [], own_nil _ _ _ _, Reps.none _ _⟩

theorem last_elem {α : Type} {d : Kd α} {e : Nat} {W : World} {base : Nat} {ok : Nat → Prop} {v : Value} {xs : List α} {p : α} (h : d.R e W base ok v (xs ++ [p])) : ∃ g cap, v = .slice (some ⟨g, 0, none⟩) (xs.length + 1) cap ∧ base ≤ g ∧ (∃ cells, W.heap[g]? = some (.cells cells e (0, 0))) ∧ (∀ j, j < d.sz → ∃ u, W.cell? ⟨g, xs.length * d.sz + j, none⟩ = some u) ∧ ∀ j, W.frozen? ⟨g, xs.length * d.sz + j, none⟩ = false := by
  have hl : (xs ++ [p]).length = xs.length + 1 := by rw [List.length_append]; rfl
  obtain ⟨g, cap, rfl, hb, _, hc⟩ := Kd.R_form h (by omega)
  rw [hl] at h
  obtain ⟨c, h1, _, h3, h4⟩ := Kd.R_elem h p (xs.length : Int) (by omega) (by omega)
  rw [Int.toNat_natCast] at h3 h4
  refine ⟨g, cap, by rw [hl], hb, hc, fun j hj => ?_, h4⟩
  exact ⟨_, h3 j _ (List.getElem?_eq_getElem (by omega))⟩
theorem last_set {α : Type} {d : Kd α} {e : Nat} {W : World} {base g cap : Nat} {okp : Nat → Prop} {xs : List α} {p x : α} {seg : List Value} (h : d.R e W base (fun _ => True) (.slice (some ⟨g, 0, none⟩) (xs.length + 1) cap) (xs ++ [p])) (hM : d.M W base okp x seg) (hok : ∀ k, okp k → k ≠ g) (hs : seg.length = d.sz) :
    d.R e (W.setCells g (xs.length * d.sz) seg) base (fun _ => True) (.slice (some ⟨g, 0, none⟩) (xs.length + 1) cap) (xs ++ [x]) := by
  obtain ⟨c, h1, _, h3, h4⟩ := Kd.R_elem h p (xs.length : Int) (by omega) (by omega)
  have := (Kd.R_seg (j := 0) (seg := seg) (x' := x) h (xs.length : Int) (by omega) (by omega) h1 h3 (by omega) (by rw [List.take_zero, List.nil_append, List.drop_of_length_le (by omega), List.append_nil]; exact hM) (fun k hk => ⟨trivial, hok k hk⟩)).1
  rw [Int.toNat_natCast, Nat.add_zero] at this
  simpa using this

/-- But for two blocks all is as it was. -/
structure Two (w F : World) (b g : Nat) : Prop where
  os : F.os = w.os
  tape : F.tape = w.tape
  output : F.output = w.output
  size : F.heap.size = w.heap.size
  block : ∀ k, k ≠ b → k ≠ g → F.heap[k]? = w.heap[k]?
theorem Two.refl (w : World) (b g : Nat) : Two w w b g := ⟨rfl, rfl, rfl, rfl, fun _ _ _ => rfl⟩
theorem Two.set_b {w F : World} {b g : Nat} (h : Two w F b g) (j : Nat) (v : Value) : Two w (F.setCell ⟨b, j, none⟩ v) b g := by
  have hb : Below 0 F (F.setCell ⟨b, j, none⟩ v) := (Below.refl 0 F).setCell (Nat.zero_le _) _
  exact ⟨hb.os.trans h.os, hb.tape.trans h.tape, hb.output.trans h.output, by rw [← h.size]; simp, fun k h1 h2 => (Below.heap_setCell _ _ _ _ h1).trans (h.block k h1 h2)⟩
theorem Two.set_g {w F : World} {b g : Nat} (h : Two w F b g) (j : Nat) (vs : List Value) : Two w (F.setCells g j vs) b g := by
  obtain ⟨s1, s2, s3, s4⟩ := setCells_same g vs j F
  exact ⟨s1.trans h.os, s2.trans h.tape, s3.trans h.output, s4.trans h.size, fun k h1 h2 => (setCells_far vs j k h2).trans (h.block k h1 h2)⟩
/-- What the two stores leave: the row's last element, the slice in its field. -/
theorem store_two {α : Type} {d : Kd α} {e : Nat} {w4 : World} {vb g cap f : Nat} {okp : Nat → Prop} {xs : List α} {p x : α} {seg : List Value} {c : Array Value} {t : TypeId} (hvb : w4.heap[vb]? = some (.cells c t (0, 0))) (hg : vb + 1 ≤ g)
    (hR : d.R e w4 (vb + 1) (fun _ => True) (.slice (some ⟨g, 0, none⟩) (xs.length + 1) cap) (xs ++ [p])) (hM : d.M w4 (vb + 1) okp x seg) (hok : ∀ k, okp k → k ≠ g) (hs : seg.length = d.sz) :
    (∀ F, F = (w4.setCells g (xs.length * d.sz) seg).setCell ⟨vb, f, none⟩ (.slice (some ⟨g, 0, none⟩) (xs.length + 1) cap) ∨ F = (w4.setCell ⟨vb, f, none⟩ (.slice (some ⟨g, 0, none⟩) (xs.length + 1) cap)).setCells g (xs.length * d.sz) seg →
      Two w4 F vb g ∧ F.heap[vb]? = some (.cells (c.setIfInBounds f (.slice (some ⟨g, 0, none⟩) (xs.length + 1) cap)) t (0, 0)) ∧ d.R e F (vb + 1) (fun _ => True) (.slice (some ⟨g, 0, none⟩) (xs.length + 1) cap) (xs ++ [x])) := by
  have keepR : ∀ {W W' : World} {ys : List α}, d.R e W (vb + 1) (fun _ => True) (.slice (some ⟨g, 0, none⟩) (xs.length + 1) cap) ys → KeepBut W W' vb none → d.R e W' (vb + 1) (fun _ => True) (.slice (some ⟨g, 0, none⟩) (xs.length + 1) cap) ys := fun h hk =>
    Kd.R_mono (Kd.R_keep (g := vb) (Kd.R_mono (Kd.R_bound h) (fun k hk => hk.2.1)) hk (fun k hk => by omega)) (fun _ _ => trivial)
  have keepM : ∀ {W W' : World}, d.M W (vb + 1) okp x seg → KeepBut W W' vb none → d.M W' (vb + 1) okp x seg := fun h hk =>
    d.M_mono (fun k hk => hk.1) (Kd.M_keep (g := vb) (d.M_bound h) hk (fun k hk => by have := hk.2.1; omega))
  rintro F (rfl | rfl)
  · refine ⟨((Two.refl _ _ _).set_g _ _).set_b _ _, blk_set ((setCells_far seg _ vb (by omega)).trans hvb) f _, ?_⟩
    exact keepR (last_set hR hM hok hs) ((KeepBut.refl _ _ _).set_ _ _)
  · refine ⟨((Two.refl _ _ _).set_b _ _).set_g _ _, (setCells_far seg _ vb (by omega)).trans (blk_set hvb f _), ?_⟩
    exact last_set (keepR hR ((KeepBut.refl _ _ _).set_ _ _)) (keepM hM ((KeepBut.refl _ _ _).set_ _ _)) hok hs
/-- What the reading gave stands behind the stores. -/
theorem VGot.two {E : ErrV} {w0 : World} {s : ByteArray} {o r : Nat} {x : JV} {v : Value} {w2 F : World} {res : PR JV} (h : VGot E w0 s o r x v w2 res) (hlow : Below w0.heap.size w2 F) (hr : F.heap[r]? = w2.heap[r]?) (hf : ∀ (k : Nat) (c : Array Value), w2.heap[k]? = some (Obj.cells c 98 (0, 0)) → F.heap[k]? = w2.heap[k]?) : VGot E w0 s o r x v F res := by
  have hRS : ∀ {j' o' : Nat}, RS E w0 s j' o' r w2 → RS E w0 s j' o' r F := fun h => ⟨hr.trans h.rd, h.le, h.low.trans hlow, h.errs, h.facts, h.size, h.at_le⟩
  cases res with
  | ok y j => exact ⟨h.1, h.2.1, hRS h.2.2⟩
  | no j k =>
    obtain ⟨⟨kk, rfl, hk⟩, j', o', hR⟩ := h
    exact ⟨⟨kk, rfl, (hf kk _ hk).trans hk⟩, j', o', hRS hR⟩

/-- The end of a closure that reads one thing: its element at the end of the row of the value under way. -/
theorem elem_end {α : Type} {d : Kd α} {e f : Nat} {E : ErrV} {w0 : World} {s : ByteArray} {o r vb g cap : Nat} {x : JV} {v va : Value} {res : PR JV} {W w2 w3 w4 : World} {xs : List α} {p y : α} {seg : List Value} {c : Array Value} {t : TypeId}
    (hva : w2.heap[vb]? = some (.cells c t (0, 0))) (hvW : vb < W.heap.size) (hWs : W.heap.size ≤ w2.heap.size) (hown : ∀ k, va.ownBlock = some k → k < W.heap.size ∧ vb + 1 ≤ k) (hty : ∀ k c, va.ownBlock = some k → w3.heap[k]? ≠ some (Obj.cells c 98 (0, 0))) (ht : t ≠ 98) (hte : e ≠ 98)
    (hM : d.M w2 W.heap.size (fun _ => True) y seg) (hs : seg.length = d.sz) (hG : VGot E w0 s o r x v w2 res) (hw0 : w0.heap.size ≤ vb) (hr : r < vb) (hB2 : Below w2.heap.size w2 w3) (hB4 : Below (vb + 1) w3 w4)
    (hR4 : d.R e w4 (vb + 1) (fun _ => True) (.slice (some ⟨g, 0, none⟩) (xs.length + 1) cap) (xs ++ [p])) (hg4 : w3.grownBy w4 va.ownBlock) (hat : (Value.slice (some ⟨g, 0, none⟩) (xs.length + 1) cap).ownBlock = va.ownBlock ∨ ∃ b, (Value.slice (some ⟨g, 0, none⟩) (xs.length + 1) cap).ownBlock = some b ∧ w3.heap.size ≤ b) :
    ∀ F, F = (w4.setCells g (xs.length * d.sz) seg).setCell ⟨vb, f, none⟩ (.slice (some ⟨g, 0, none⟩) (xs.length + 1) cap) ∨ F = (w4.setCell ⟨vb, f, none⟩ (.slice (some ⟨g, 0, none⟩) (xs.length + 1) cap)).setCells g (xs.length * d.sz) seg →
      F.heap[vb]? = some (.cells (c.setIfInBounds f (.slice (some ⟨g, 0, none⟩) (xs.length + 1) cap)) t (0, 0)) ∧ d.R e F (vb + 1) (fun _ => True) (.slice (some ⟨g, 0, none⟩) (xs.length + 1) cap) (xs ++ [y]) ∧ Below vb w2 F ∧ VGot E w0 s o r x v F res := by
  intro F hF
  have hgb : vb + 1 ≤ g := Kd.R_base hR4 g (by simp [Value.ownBlock])
  have hgt : ∃ cells, w4.heap[g]? = some (.cells cells e (0, 0)) := by
    obtain ⟨inner, ho⟩ := Kd.R_own hR4
    exact own_typed ho g (by simp [Value.ownBlock])
  have hva4 : w4.heap[vb]? = some (.cells c t (0, 0)) := (hB4.block vb (by omega)).trans ((hB2.block vb (by omega)).trans hva)
  have hgk : ∀ k, W.heap.size ≤ k ∧ k < w2.heap.size → k ≠ g := by
    rintro k ⟨h1, h2⟩ rfl
    rcases hat with hat | ⟨b, hb, hle⟩
    · have := (hown k (by rw [← hat]; simp [Value.ownBlock])).1
      omega
    · have hbk : k = b := by simpa [Value.ownBlock] using hb
      have := hB2.size
      omega
  have hM4 : d.M w4 (vb + 1) (fun k => W.heap.size ≤ k ∧ k < w2.heap.size) y seg := by
    have h1 : d.M w2 W.heap.size (fun k => W.heap.size ≤ k ∧ k < w2.heap.size) y seg := d.M_mono (fun k hk => ⟨hk.2.1, hk.2.2.1⟩) (d.M_bound hM)
    have h2 := Kd.M_grown (Kd.M_below h1 hB2) hg4 (fun k hk e => by have := (hown k e.symm).1; omega)
    exact d.M_lower (by omega) h2
  obtain ⟨hT, h2, h3⟩ := store_two hva4 hgb hR4 hM4 hgk hs F hF
  have hsz2 := hB2.size
  have hsz4 := hB4.size
  have hlow : Below vb w2 F := ⟨hT.os.trans (hB4.os.trans hB2.os), hT.tape.trans (hB4.tape.trans hB2.tape), hT.output.trans (hB4.output.trans hB2.output), by rw [hT.size]; omega, fun k hk => (hT.block k (by omega) (by omega)).trans ((hB4.block k (by omega)).trans (hB2.block k (by omega)))⟩
  refine ⟨h2, h3, hlow, hG.two (hlow.mono hw0) (hlow.block r hr) ?_⟩
  intro k ck hk
  have hk2 := blk_lt hk
  have hk3 := (hB2.block k hk2).trans hk
  have hk4 : w4.heap[k]? = some (.cells ck 98 (0, 0)) := blk_grown hk3 hg4 (fun e => hty k ck e.symm hk3)
  obtain ⟨gc, hgc⟩ := hgt
  exact (hT.block k (fun e => ht (by subst e; rw [hva4] at hk4; injection hk4 with hk4; injection hk4 with _ hk4)) (fun e => hte (by subst e; rw [hgc] at hk4; injection hk4 with hk4; injection hk4 with _ hk4))).trans (hk4.trans hk.symm)

set_option maxRecDepth 100000 in
set_option maxHeartbeats 8000000 in
theorem each_list {E : ErrV} {w0 : World} {s : ByteArray} {i o r vb : Nat} {wv : World} {xs : List JV} {W : World} (val : Nat → PR JV) (hV : ValOK E w0 s r o val) (hL : LB r wv vb xs W) (hR : RS E w0 s i o r W) (hw0 : w0.heap.size ≤ r) (hlen : xs.length ≤ 1048576) :
    Calls Tryz.prog 83 #[.pointer (some ⟨wv.heap.size, 0, none⟩), .pointer (some ⟨vb, 0, none⟩)] W fun e w' => ∃ x v, e = .returned v ∧ LB r wv vb (xs ++ [x]) w' ∧ VGot E w0 s o r x v w' (val i) := by
  have hcr := cellAll hL.rb
  have cV := hV i W hR
  generalize val i = res at cV ⊢
  go_enter Tryz.func83, Tryz.ntmps83
  go_wp2_with (go_at_call 58; refine cV.mono ?_; rintro e w2 ⟨x, cs, v, rfl, hM, hG, hRd⟩; obtain ⟨l, f, rfl, hRl, hRf⟩ := kV_openM hM; obtain ⟨Al, cl, rfl⟩ := Kd.R_slice hRl; obtain ⟨Af, cf, rfl⟩ := Kd.R_slice hRf; clear hRl hRf; unfold JV.cells at hM ⊢; replace hM := Aside0.mk hM; replace hG := Aside0.mk hG; have hL2 := hL.read hRd; obtain ⟨va, hva, hRv⟩ := hL2.blk)
  have hx := heap_alloc_new w2 (.cells #[.int .i64 x.kind, .bool x.truth, .bool x.neg, .string x.digits, .int .i64 x.exp, .string x.text, .slice Al x.list.length cl, .slice Af x.fields.length cf] 27)
  have hB2 := (Below.refl w2.heap.size w2).alloc (Nat.le_refl _) (.cells #[.int .i64 x.kind, .bool x.truth, .bool x.neg, .string x.digits, .int .i64 x.exp, .string x.text, .slice Al x.list.length cl, .slice Af x.fields.length cf] 27)
  generalize w2.alloc (.cells #[.int .i64 x.kind, .bool x.truth, .bool x.neg, .string x.digits, .int .i64 x.exp, .string x.text, .slice Al x.list.length cl, .slice Af x.fields.length cf] 27) = w3 at *
  have hva3 := (hB2.block _ (blk_lt hva)).trans hva
  have hRv3 := Kd.R_below hRv hB2
  obtain ⟨A0, c0, rfl⟩ := Kd.R_slice hRv
  have hc3 := cellAll hva3
  have hcx := cellAll hx
  have hcn := cellAll ((heap_alloc_old w3 (.cells #[.int .i64 0, .bool false, .bool false, .string ⟨#[]⟩, .int .i64 0, .string ⟨#[]⟩, .slice none 0 0, .slice none 0 0] 27) (blk_lt hva3)).trans hva3)
  have hcxn := cellAll ((heap_alloc_old w3 (.cells #[.int .i64 0, .bool false, .bool false, .string ⟨#[]⟩, .int .i64 0, .string ⟨#[]⟩, .slice none 0 0, .slice none 0 0] 27) (blk_lt hx)).trans hx)
  unfold lCells at hc3 hcn
  have hlv := hL2.lv
  have hlr := hL2.lr
  obtain ⟨va0, hva0, hR0⟩ := hL.blk
  have hvW := blk_lt hva0
  have hvv : va0 = .slice A0 xs.length c0 := by
    have h1 := (hRd.block vb hvW (by intro e; injection e with e; omega)).trans hva0
    rw [hva] at h1
    injection h1 with h1
    injection h1 with h1
    have h2 := congrArg (fun a => a.getD 6 undef) h1
    exact h2.symm
  subst hvv
  have hownW : Aside0 (∀ k, (Value.slice A0 xs.length c0).ownBlock = some k → k < W.heap.size ∧ vb + 1 ≤ k) := ⟨fun k hk => ⟨by obtain ⟨inner, ho⟩ := Kd.R_own hR0; exact own_lt ho k hk, Kd.R_base hR0 k hk⟩⟩
  have hty : Aside0 (∀ (k : Nat) (c : Array Value), (Value.slice A0 xs.length c0).ownBlock = some k → w3.heap[k]? ≠ some (Obj.cells c 98 (0, 0))) := ⟨fun k c hk h => by
    obtain ⟨inner, ho⟩ := Kd.R_own hRv3
    obtain ⟨cells, hcc⟩ := own_typed ho k hk
    rw [hcc] at h
    injection h with h
    injection h with _ h
    revert h
    decide⟩
  clear hva0 hR0
  have hnn : (xs.length : Int) < (xs.length : Int) + 1 := by omega
  go_region_law (first
    | (refine append_nul kV (vb + 1) (by rfl) (.tmp 11) (.tmp 14) 24 27 zV 112 (by rfl) Tryz.underlying24 infoV2 rfl (by decide) (by omega) (.slice A0 xs.length c0) xs JV.nul nulCells (by rfl) (by rfl) (M_nul0 _ _) hRv3 (by have := blk_lt hva3; omega) (by omega) ?_; intro v1 w4 hR4 hB4 hg4 hat4; replace hat4 := Aside0.mk hat4; obtain ⟨g, cap, rfl, hgb, ⟨gc, hgc⟩, hcl, hfz⟩ := last_elem hR4; simp only [show kV.sz = 8 from rfl] at hcl hfz; obtain ⟨u0, q0⟩ := hcl 0 (by omega); obtain ⟨u1, q1⟩ := hcl 1 (by omega); obtain ⟨u2, q2⟩ := hcl 2 (by omega); obtain ⟨u3, q3⟩ := hcl 3 (by omega); obtain ⟨u4, q4⟩ := hcl 4 (by omega); obtain ⟨u5, q5⟩ := hcl 5 (by omega); obtain ⟨u6, q6⟩ := hcl 6 (by omega); obtain ⟨u7, q7⟩ := hcl 7 (by omega); rw [Nat.add_zero] at q0; have hfz0 := hfz 0; rw [Nat.add_zero] at hfz0; clear hcl; have hva4 := blk_grown hva3 hg4 (fun e => by have := Kd.R_base hRv3 vb e.symm; omega); have hc4 := cellAll hva4; have hf4 := frozenAll hva4; unfold lCells at hc4; replace hR4 := Aside0.mk hR4; have hgv : vb ≠ g := by omega))
  all_goals (go_wp2_with fail)
  all_goals go_ret
  all_goals (have hEnd := elem_end (f := 6) (x := x) (v := v) (w0 := w0) (E := E) (s := s) (o := o) (r := r) (res := res) hva hvW hRd.size (va := .slice A0 xs.length c0) hownW.out hty.out (by decide) (by decide) hM.out rfl hG.out (by omega) (by omega) hB2 hB4 hR4.out hg4 hat4.out)
  all_goals (have hFin : ∀ F, (F = (w4.setCells g (xs.length * kV.sz) [.int .i64 x.kind, .bool x.truth, .bool x.neg, .string x.digits, .int .i64 x.exp, .string x.text, .slice Al x.list.length cl, .slice Af x.fields.length cf]).setCell ⟨vb, 6, none⟩ (.slice (some ⟨g, 0, none⟩) (xs.length + 1) cap) ∨ F = (w4.setCell ⟨vb, 6, none⟩ (.slice (some ⟨g, 0, none⟩) (xs.length + 1) cap)).setCells g (xs.length * kV.sz) [.int .i64 x.kind, .bool x.truth, .bool x.neg, .string x.digits, .int .i64 x.exp, .string x.text, .slice Al x.list.length cl, .slice Af x.fields.length cf]) → LB r wv vb (xs ++ [x]) F ∧ VGot E w0 s o r x v F res := fun F hF => ⟨⟨((hEnd F hF).2.2.1.block _ (by omega)).trans hL2.rb, ((hEnd F hF).2.2.1.block _ (by omega)).trans hL2.out, ⟨_, (hEnd F hF).1, (hEnd F hF).2.1⟩, hL2.rd.low ((hEnd F hF).2.2.1.mono (by omega)), hlv, hlr⟩, (hEnd F hF).2.2.2⟩)
  all_goals (refine ⟨x, v, rfl, ?_⟩)
  all_goals (refine hFin _ ?_)
  all_goals (simp only [World.setCells, kV_sz, Nat.add_assoc, Nat.reduceAdd, eq_self, true_or, or_true])
end Go.Proofs.YtkdeleafgailhaaGreatDoor
end
section
set_option linter.unusedVariables false
set_option linter.unusedSimpArgs false
namespace Go.Proofs.YtkdeleafgailhaaGreatDoor
open Go Go.RowKit Go.Proofs.YtkdeleafgailhaaGreatDoorW.PrintWords

/-- Is there a field of this name? -/
def hasName (fs : List JF) (name : ByteArray) : Bool := fs.any (fun f => decide (f.name = name))
set_option maxRecDepth 100000 in
set_option maxHeartbeats 4000000 in
theorem fname_any (nm name : ByteArray) (c0 c1 c2 c3 c4 c5 c6 c7 : Value) (nb : Nat) (W : World) (h : W.heap[nb]? = some (.cells #[.string name] 9 (0, 0))) :
    Calls Tryz.prog 108 #[.agg #[.string nm, c0, c1, c2, c3, c4, c5, c6, c7], .pointer (some ⟨nb, 0, none⟩)] W fun e w' => e = .returned (.bool (decide (nm = name))) ∧ Below W.heap.size W w' := by
  have hb : (nm.toList == name.toList) = decide (nm = name) := bytes_beq nm name
  have hB := (Below.refl _ W).alloc (Nat.le_refl _) (.cells #[.string nm, c0, c1, c2, c3, c4, c5, c6, c7] 69)
  have hc := cellAll ((hB.block nb (blk_lt h)).trans h)
  go_enter Tryz.func108, Tryz.ntmps108
  go_wp2_with fail
  go_ret
  exact ⟨by simp [hb], hB⟩

set_option maxRecDepth 100000 in
set_option maxHeartbeats 4000000 in
theorem indexName (name : ByteArray) (nb : Nat) (w : World) (A : Option Addr) (n c : Nat) (xs : List JF) (hn : n ≤ 4294967296) (hC : kF.C w A n xs) (h : w.heap[nb]? = some (.cells #[.string name] 9 (0, 0))) :
    Calls Tryz.prog 131 #[.slice A n c, .func (.func 108) #[] #[.pointer (some ⟨nb, 0, none⟩)]] w fun e w' => ∃ q : Int, e = .returned (.int .i64 q) ∧ decide (0 ≤ q) = hasName xs name ∧ Below w.heap.size w w' := by
  have hlen := hC.1
  replace hlen := Aside0.mk hlen
  have hnl := blk_lt h
  replace h := Aside0.mk h
  go_enter Tryz.func131, Tryz.ntmps131
  go_wp2_with fail
  go_loopw [8] (fun i wr => ∃ j : Nat, i = .int .i64 j ∧ j ≤ n ∧ Below w.heap.size w wr ∧ Aside0 (hasName (xs.take j) name = false)) (fun i _ => n - (intOf i).toNat)
  case atStart => exact ⟨0, rfl, Nat.zero_le _, Below.refl _ _, ⟨rfl⟩⟩
  case round =>
    obtain ⟨j, rfl, hj, hB, hno⟩ := hrel
    by_cases hlt : j < n
    · obtain ⟨ad, x, A6, c6, A7, c7, rfl, hx, hcs, l6, g6, l7, g7⟩ := at_F (Kd.C_below hC hB) j hlt
      unfold JV.cells at hcs
      obtain ⟨q0, q1, q2, q3, q4, q5, q6, q7, q8, _⟩ := hcs
      clear g6 g7
      have cF := fname_any x.name name (.int .i64 x.value.kind) (.bool x.value.truth) (.bool x.value.neg) (.string x.value.digits) (.int .i64 x.value.exp) (.string x.value.text) (.slice A6 x.value.list.length c6) (.slice A7 x.value.fields.length c7) nb wr ((hB.block nb hnl).trans h.out)
      have hsn : hasName (xs.take (j + 1)) name = decide (x.name = name) := by
        have h1 := hno.out
        unfold hasName at h1 ⊢
        rw [List.take_add_one, hx, Option.toList_some, List.any_append, h1, Bool.false_or, List.any_cons, List.any_nil, Bool.or_false]
      have hall : decide (x.name = name) = true → hasName xs name = true := by
        intro h1
        unfold hasName
        exact List.any_eq_true.2 ⟨x, List.mem_of_getElem? hx, h1⟩
      replace hx := Aside0.mk hx
      replace hsn := Aside0.mk hsn
      replace hall := Aside0.mk hall
      generalize decide (x.name = name) = b at *
      cases b with
      | true =>
        have hall2 := Aside0.mk (hall.out rfl)
        clear hall
        go_wp2_with (go_at_call 108; refine cF.mono ?_; rintro e w1 ⟨rfl, hb4⟩)
        go_ret
        exact ⟨j, rfl, by rw [hall2.out]; simp, hB.trans (hb4.mono hB.size)⟩
      | false =>
        go_wp2_with (go_at_call 108; refine cF.mono ?_; rintro e w1 ⟨rfl, hb4⟩)
        go_roundw
        case rel => exact ⟨j + 1, by go_num, by omega, hB.trans (hb4.mono hB.size), ⟨hsn.out⟩⟩
        case measure => simp [intOf]; omega
    · obtain rfl : j = n := by omega
      have htk : hasName xs name = false := by have := hno.out; rwa [← hlen.out, List.take_length] at this
      replace htk := Aside0.mk htk
      go_wp2_with fail
      go_ret
      exact ⟨-1, rfl, by rw [htk.out]; rfl, hB⟩

set_option maxRecDepth 100000 in
set_option maxHeartbeats 4000000 in
theorem hasName_any (name : ByteArray) (nb : Nat) (w : World) (A : Option Addr) (n c : Nat) (xs : List JF) (hn : n ≤ 4294967296) (hC : kF.C w A n xs) (h : w.heap[nb]? = some (.cells #[.string name] 9 (0, 0))) :
    Calls Tryz.prog 107 #[.slice A n c, .func (.func 108) #[] #[.pointer (some ⟨nb, 0, none⟩)]] w fun e w' => e = .returned (.bool (hasName xs name)) ∧ Below w.heap.size w w' := by
  have cI := indexName name nb w A n c xs hn hC h
  generalize hasName xs name = b at cI ⊢
  go_enter Tryz.func107, Tryz.ntmps107
  go_wp2_with (go_at_call 131; refine cI.mono ?_; rintro e w1 ⟨q, rfl, rfl, hb⟩)
  go_ret
  exact ⟨rfl, hb⟩
end Go.Proofs.YtkdeleafgailhaaGreatDoor
end
section
set_option linter.unusedVariables false
set_option linter.unusedSimpArgs false
namespace Go.Proofs.YtkdeleafgailhaaGreatDoor
open Go Go.RowKit Go.Proofs.YtkdeleafgailhaaGreatDoorW.PrintWords

def fieldOf (fs : List JF) (name : ByteArray) : PR JV → PR (List JF)
  | .no j e => .no j e
  | .ok x j => .ok (fs ++ [JF.mk name x]) j
def fieldAt (s : ByteArray) (val : Nat → PR JV) (i : Nat) (fs : List JF) : PR (List JF) :=
  if byteAt s i = 34 then
    match textAt s i with
    | .no k e => .no k e
    | .ok l k =>
      if hasName fs ⟨l.toArray⟩ = true then .no i .twice
      else if byteAt s (gapTo s k) = 58 then
        fieldOf fs ⟨l.toArray⟩ (val (gapTo s (gapTo s k + 1)))
      else .no (gapTo s k) .due
  else .no i .due
/-- The cells of the value under way: an object. -/
def oCells (va : Value) : Array Value := #[.int .i64 5, .bool false, .bool false, .string ⟨#[]⟩, .int .i64 0, .string ⟨#[]⟩, .slice none 0 0, va]
structure OB (r : Nat) (wv : World) (vb : Nat) (fs : List JF) (W : World) : Prop where
  rb : W.heap[wv.heap.size]? = some (.cells #[.pointer (some ⟨r, 0, none⟩)] 90 (0, 0))
  out : W.heap[wv.heap.size + 1]? = some (.cells nulCells.toArray 27 (0, 0))
  blk : ∃ va, W.heap[vb]? = some (.cells (oCells va) 27 (0, 0)) ∧ kF.R 69 W (vb + 1) (fun _ => True) va fs
  rd : Read r wv W
  lv : wv.heap.size + 2 ≤ vb
  lr : r < wv.heap.size
theorem OB.read {r : Nat} {wv : World} {vb : Nat} {fs : List JF} {W W' : World} (h : OB r wv vb fs W) (hr : Read r W W') : OB r wv vb fs W' := by
  obtain ⟨va, hva, hR⟩ := h.blk
  have hlv := h.lv
  have hlr := h.lr
  have keep : ∀ k o, W.heap[k]? = some o → k ≠ r → W'.heap[k]? = some o := fun k o hk hne => (hr.block k (blk_lt hk) (by intro e; injection e with e; exact hne e)).trans hk
  refine ⟨keep _ _ h.rb (by omega), keep _ _ h.out (by omega), ⟨va, keep _ _ hva (by omega), ?_⟩, h.rd.trans hr, h.lv, h.lr⟩
  exact Kd.R_mono (Kd.R_keep (g := r) (Kd.R_mono (Kd.R_bound hR) (fun k hk => hk.2.1)) ⟨hr.size, fun i hi hne _ => hr.block i hi (by intro e; injection e with e; exact hne e)⟩ (fun k hk => by omega)) (fun _ _ => trivial)
def FieldGives (E : ErrV) (w0 : World) (s : ByteArray) (o r : Nat) (wv : World) (vb : Nat) (e : Ending) (w' : World) : PR (List JF) → Prop
  | .ok fs j => e = .returned .nilIface ∧ OB r wv vb fs w' ∧ RS E w0 s j o r w'
  | .no j k => ∃ v, e = .returned v ∧ IsFault v j (ev (E.at_ k)) w' ∧ (∃ fs, OB r wv vb fs w') ∧ ∃ j' o', RS E w0 s j' o' r w'
/-- A fault and nothing written behind the text. -/
theorem FieldGives.fault {E : ErrV} {w0 : World} {s : ByteArray} {o r : Nat} {wv : World} {vb : Nat} {fs : List JF} {W W' : World} {j k' : Nat} {k : PE} {kk : Nat} (hO : OB r wv vb fs W) (hRd : Read r W W') (hR : RS E w0 s k' o r W') (hk : W'.heap[kk]? = some (.cells #[.int .i64 j, .string ⟨#[]⟩, ev (E.at_ k)] 98 (0, 0))) :
    FieldGives E w0 s o r wv vb (.returned (.iface 94 (.pointer (some ⟨kk, 0, none⟩)))) W' (.no j k) := ⟨_, rfl, ⟨kk, rfl, hk⟩, ⟨fs, hO.read hRd⟩, k', o, hR⟩
theorem M_nulF0 (w : World) (base : Nat) : kF.M w base (fun _ => False) JF.nul [.string ⟨#[]⟩, .int .i64 0, .bool false, .bool false, .string ⟨#[]⟩, .int .i64 0, .string ⟨#[]⟩, .slice none 0 0, .slice none 0 0] := ⟨[.string ⟨#[]⟩], nulCells, rfl, rfl, M_nul0 w base⟩

theorem field_fin {E : ErrV} {w0 : World} {s : ByteArray} {o r : Nat} {wv : World} {vb : Nat} {fs : List JF} {name : ByteArray} {x : JV} {v : Value} {F : World} {res : PR JV} (hO : OB r wv vb (fs ++ [JF.mk name x]) F) (hG : VGot E w0 s o r x v F res) : FieldGives E w0 s o r wv vb (.returned v) F (fieldOf fs name res) := by
  cases res with
  | ok y j =>
    obtain ⟨rfl, rfl, h⟩ := hG
    exact ⟨rfl, hO, h⟩
  | no j k =>
    obtain ⟨h1, h2⟩ := hG
    exact ⟨v, rfl, h1, ⟨_, hO⟩, h2⟩

set_option maxRecDepth 100000 in
set_option maxHeartbeats 8000000 in
theorem field_any {E : ErrV} {w0 : World} {s : ByteArray} {i o r vb : Nat} {wv : World} {fs : List JF} {W : World} (val : Nat → PR JV) (hV : ValOK E w0 s r o val) (hO : OB r wv vb fs W) (hR : RS E w0 s i o r W) (hw0 : w0.heap.size ≤ r) (hlen : fs.length ≤ 1048576) (TT : TypeId) (pp : Value) (hv : w0.cell? ⟨14, 0, none⟩ = some (.iface TT pp)) :
    Calls Tryz.prog 85 #[.pointer (some ⟨r, 0, none⟩), .pointer (some ⟨vb, 0, none⟩)] W fun e w' => FieldGives E w0 s o r wv vb e w' (fieldAt s val i fs) := by
  have hc := cellAll hR.rd
  have hf := frozenAll hR.rd
  have hsz := hR.size
  have hil := hR.at_le
  have hbl := byteAt_lt s i
  have cN := next_s hR
  unfold fieldAt
  by_cases h34 : ¬ byteAt s i = 34
  · rw [if_neg h34]
    have b1 : ((byteAt s i : Int) != 34) = true := by simp; omega
    clear h34
    go_enter Tryz.func85, Tryz.ntmps85
    go_wp2_with (first
      | (go_at_call 56; refine (fail_any _ _ _ _).mono ?_; rintro e w9 ⟨v, rfl, ⟨kk, rfl, hk⟩, hb9⟩; replace hk := Aside0.mk hk)
      | (go_at_call 81; refine cN.mono ?_; rintro e w1 ⟨rfl, hR1, hb1⟩; have hd1 := hR1.er.due_cell))
    go_ret
    exact FieldGives.fault (k := .due) hO (Read.of_below (hb1.trans (hb9.mono hb1.size))) (hR1.below hb9) hk.out
  replace h34 := Decidable.not_not.1 h34
  rw [if_pos h34]
  have b1 : ((byteAt s i : Int) != 34) = false := by simp; omega
  have his : i < s.size := byteAt_in (by omega)
  clear h34
  have cT := fun (W1 : World) (hW1 : RS E w0 s i o r W1) => text_any hW1 TT pp hv his
  generalize textAt s i = tx at *
  cases tx with
  | no j k =>
    simp only [TextGives] at cT
    go_enter Tryz.func85, Tryz.ntmps85
    go_wp2_with (first
      | (go_at_call 86; refine (cT _ hR1).mono ?_; rintro e w2 ⟨v, rfl, ⟨kk, rfl, hk⟩, hR2, hW2⟩; replace hk := Aside0.mk hk)
      | (go_at_call 81; refine cN.mono ?_; rintro e w1 ⟨rfl, hR1, hb1⟩))
    go_ret
    have hB3 := (Below.refl w2.heap.size w2).alloc (Nat.le_refl _) (.cells #[.string ⟨#[]⟩] 9)
    exact FieldGives.fault hO ((Read.of_below hb1).trans (hW2.trans (Read.of_below hB3))) (hR2.below hB3) ((hB3.block kk (blk_lt hk.out)).trans hk.out)
  | ok l k =>
    simp only [TextGives] at cT
    simp only
    generalize (⟨l.toArray⟩ : ByteArray) = name at *
    obtain ⟨va, hva, hRv⟩ := hO.blk
    obtain ⟨A0, c0, rfl⟩ := Kd.R_slice hRv
    clear hva hRv
    have hfl : ∀ W', OB r wv vb fs W' → ∃ A c, W'.heap[vb]? = some (.cells (oCells (.slice A fs.length c)) 27 (0, 0)) ∧ kF.R 69 W' (vb + 1) (fun _ => True) (.slice A fs.length c) fs := fun W' h => by
      obtain ⟨va, h1, h2⟩ := h.blk
      obtain ⟨A, c, rfl⟩ := Kd.R_slice h2
      exact ⟨A, c, h1, h2⟩
    have cH := fun (W1 : World) (A : Option Addr) (c nb : Nat) (hRw : kF.R 69 W1 (vb + 1) (fun _ => True) (.slice A fs.length c) fs) (hn : W1.heap[nb]? = some (.cells #[.string name] 9 (0, 0))) => hasName_any name nb W1 A fs.length c fs (by omega) (Kd.R_reads' hRw).2.2 hn
    generalize hasName fs name = hs at *
    replace hfl := Aside0.mk hfl
    have hcO := Aside0.mk hO

    cases hs with
    | true =>
      rw [if_pos rfl]
      go_enter Tryz.func85, Tryz.ntmps85
      go_wp2_with (first
        | (go_at_call 56; refine (fail_any _ _ _ _).mono ?_; rintro e w9 ⟨v, rfl, ⟨kk, rfl, hk⟩, hb9⟩; replace hk := Aside0.mk hk)
        | (go_at_call 107; refine (cH _ A2 c2 w2.heap.size hRv3.out hnb.out).mono ?_; rintro e w4 ⟨rfl, hb4⟩; have hd4 := (hR3.out.below hb4).er.twice_cell)
        | (go_at_call 86; refine (cT _ hR1).mono ?_; rintro e w2 ⟨rfl, hR2, hW2⟩; have hO2 := hcO.out.read ((Read.of_below hb1).trans hW2); obtain ⟨A2, c2, hva2, hRv2⟩ := hfl.out _ hO2; have hB3 := (Below.refl w2.heap.size w2).alloc (Nat.le_refl _) (.cells #[.string name] 9); have hva3 := (hB3.block _ (blk_lt hva2)).trans hva2; have hRv3 := Aside0.mk (Kd.R_below hRv2 hB3); have hnb := Aside0.mk (heap_alloc_new w2 (.cells #[.string name] 9)); have hc3 := cellAll hva3; have hR3 := Aside0.mk (hR2.below hB3); unfold oCells at hc3; replace hB3 := Aside0.mk hB3; clear hva3 hRv2 hva2)
        | (go_at_call 81; refine cN.mono ?_; rintro e w1 ⟨rfl, hR1, hb1⟩))
      go_ret
      exact FieldGives.fault (k := .twice) hcO.out ((Read.of_below hb1).trans (hW2.trans ((Read.of_below hB3.out).trans ((Read.of_below hb4).trans (Read.of_below hb9))))) ((hR3.out.below hb4).below hb9) hk.out
    | false =>
      rw [if_neg (by simp)]
      by_cases h58 : byteAt s (gapTo s k) = 58
      · rw [if_pos h58]
        have cD := fun (W1 : World) (hW1 : RS E w0 s k o r W1) => due_ok hW1 58 (by omega) h58
        generalize gapTo s (gapTo s k + 1) = j3 at *
        have cV := fun (W1 : World) (hW1 : RS E w0 s j3 o r W1) => hV j3 W1 hW1
        clear hV
        generalize val j3 = res at cV ⊢
        clear h58
        go_enter Tryz.func85, Tryz.ntmps85
        go_wp2_with (first
          | (go_at_call 58; refine (cV _ hR5).mono ?_; rintro e w6 ⟨x, cs, v, rfl, hM, hG, hRd⟩; obtain ⟨l, f, rfl, hRl, hRf⟩ := kV_openM hM; obtain ⟨Al, cl, rfl⟩ := Kd.R_slice hRl; obtain ⟨Af, cf, rfl⟩ := Kd.R_slice hRf; clear hRl hRf; unfold JV.cells at hM ⊢; replace hM := Aside0.mk hM; replace hG := Aside0.mk hG)
          | (go_at_call 109; refine (cD _ hR4.out).mono ?_; rintro e w5 ⟨rfl, hR5, hW5⟩)
          | (go_at_call 107; refine (cH _ A2 c2 w2.heap.size hRv3.out hnb.out).mono ?_; rintro e w4 ⟨rfl, hb4⟩; have hR4 := Aside0.mk (hR3.out.below hb4))
          | (go_at_call 86; refine (cT _ hR1).mono ?_; rintro e w2 ⟨rfl, hR2, hW2⟩; have hO2 := hcO.out.read ((Read.of_below hb1).trans hW2); obtain ⟨A2, c2, hva2, hRv2⟩ := hfl.out _ hO2; have hB3 := (Below.refl w2.heap.size w2).alloc (Nat.le_refl _) (.cells #[.string name] 9); have hva3 := (hB3.block _ (blk_lt hva2)).trans hva2; have hRv3 := Aside0.mk (Kd.R_below hRv2 hB3); have hnb := Aside0.mk (heap_alloc_new w2 (.cells #[.string name] 9)); have hc3 := cellAll hva3; have hR3 := Aside0.mk (hR2.below hB3); unfold oCells at hc3; replace hB3 := Aside0.mk hB3; clear hva3 hRv2 hva2)
          | (go_at_call 81; refine cN.mono ?_; rintro e w1 ⟨rfl, hR1, hb1⟩))
        have hlv := hO2.lv
        have hlr := hO2.lr
        have hs2 : w2.heap.size < w4.heap.size := by have := hb4.size; have := blk_lt hnb.out; omega
        have hO5 : OB r wv vb fs w5 := hO2.read ((Read.of_below hB3.out).trans ((Read.of_below hb4).trans hW5))
        have hsv : vb < w2.heap.size := by
          obtain ⟨A, c, h1, _⟩ := hfl.out _ hO2
          exact blk_lt h1
        have hnr : w2.heap.size ≠ r := by omega
        have hnb5 : w5.heap[w2.heap.size]? = some (.cells #[.string name] 9 (0, 0)) := (hW5.block _ hs2 (by intro e; injection e with e; exact hnr e)).trans ((hb4.block _ (blk_lt hnb.out)).trans hnb.out)
        have hnb6 := (hRd.block _ (blk_lt hnb5) (by intro e; injection e with e; exact hnr e)).trans hnb5
        obtain ⟨A5, c5, hva5, hRv5⟩ := hfl.out _ hO5
        have hO6 := hO5.read hRd
        have hva6 := (hRd.block vb (blk_lt hva5) (by intro e; injection e with e; omega)).trans hva5
        have hRv6 : kF.R 69 w6 (vb + 1) (fun _ => True) (.slice A5 fs.length c5) fs := Kd.R_mono (Kd.R_keep (g := r) (Kd.R_mono (Kd.R_bound hRv5) (fun k hk => hk.2.1)) ⟨hRd.size, fun i hi hne _ => hRd.block i hi (by intro e; injection e with e; exact hne e)⟩ (fun k hk => by omega)) (fun _ _ => trivial)
        have hvW := blk_lt hva5
        have hownW : Aside0 (∀ k, (Value.slice A5 fs.length c5).ownBlock = some k → k < w5.heap.size ∧ vb + 1 ≤ k) := ⟨fun k hk => ⟨by obtain ⟨inner, ho⟩ := Kd.R_own hRv5; exact own_lt ho k hk, Kd.R_base hRv5 k hk⟩⟩
        have hx := heap_alloc_new w6 (.cells #[.int .i64 x.kind, .bool x.truth, .bool x.neg, .string x.digits, .int .i64 x.exp, .string x.text, .slice Al x.list.length cl, .slice Af x.fields.length cf] 27)
        have hB2 := (Below.refl w6.heap.size w6).alloc (Nat.le_refl _) (.cells #[.int .i64 x.kind, .bool x.truth, .bool x.neg, .string x.digits, .int .i64 x.exp, .string x.text, .slice Al x.list.length cl, .slice Af x.fields.length cf] 27)
        generalize w6.alloc (.cells #[.int .i64 x.kind, .bool x.truth, .bool x.neg, .string x.digits, .int .i64 x.exp, .string x.text, .slice Al x.list.length cl, .slice Af x.fields.length cf] 27) = w7 at *
        have hva7 := (hB2.block _ (blk_lt hva6)).trans hva6
        have hnb7 := (hB2.block _ (blk_lt hnb6)).trans hnb6
        have hRv7 := Kd.R_below hRv6 hB2
        have hty : Aside0 (∀ (k : Nat) (c : Array Value), (Value.slice A5 fs.length c5).ownBlock = some k → w7.heap[k]? ≠ some (Obj.cells c 98 (0, 0))) := ⟨fun k c hk h => by
          obtain ⟨inner, ho⟩ := Kd.R_own hRv7
          obtain ⟨cells, hcc⟩ := own_typed ho k hk
          rw [hcc] at h
          injection h with h
          injection h with _ h
          revert h
          decide⟩
        obtain ⟨innerF, hownF0⟩ := Kd.R_own hRv7
        have hownF := Aside0.mk hownF0
        clear hownF0
        have hc7 := cellAll hva7
        have hcx := cellAll hx
        have hcm := cellAll hnb7
        have hc7n := cellAll ((heap_alloc_old w7 (.cells #[.string ⟨#[]⟩, .int .i64 0, .bool false, .bool false, .string ⟨#[]⟩, .int .i64 0, .string ⟨#[]⟩, .slice none 0 0, .slice none 0 0] 69) (blk_lt hva7)).trans hva7)
        have hcxn := cellAll ((heap_alloc_old w7 (.cells #[.string ⟨#[]⟩, .int .i64 0, .bool false, .bool false, .string ⟨#[]⟩, .int .i64 0, .string ⟨#[]⟩, .slice none 0 0, .slice none 0 0] 69) (blk_lt hx)).trans hx)
        have hcmn := cellAll ((heap_alloc_old w7 (.cells #[.string ⟨#[]⟩, .int .i64 0, .bool false, .bool false, .string ⟨#[]⟩, .int .i64 0, .string ⟨#[]⟩, .slice none 0 0, .slice none 0 0] 69) (blk_lt hnb7)).trans hnb7)
        unfold oCells at hc7 hc7n
        have hMF : Aside0 (kF.M w6 w5.heap.size (fun _ => True) (JF.mk name x) [.string name, .int .i64 x.kind, .bool x.truth, .bool x.neg, .string x.digits, .int .i64 x.exp, .string x.text, .slice Al x.list.length cl, .slice Af x.fields.length cf]) := ⟨⟨[.string name], _, rfl, rfl, hM.out⟩⟩
        have hnn : (fs.length : Int) < (fs.length : Int) + 1 := by omega
        clear hva5 hRv5 hnb5 hc3 hbl cN cT cH cD cV
        have hbv7 : vb + 1 ≤ w7.heap.size := by have := blk_lt hva7; omega
        have hnx : w2.heap.size ≠ w6.heap.size := by have := blk_lt hnb6; omega
        have hvx : vb ≠ w6.heap.size := by have := blk_lt hva6; omega
        have hvn : vb ≠ w2.heap.size := by omega
        have hvx' := Ne.symm hvx
        have hvn' := Ne.symm hvn
        go_region_law (first
          | (refine append_nul kF (vb + 1) (by rfl) (.tmp 50) (.tmp 55) 25 69 zF 128 (by rfl) Tryz.underlying25 infoF rfl (by decide) (by omega) (.slice A5 fs.length c5) fs JF.nul [.string ⟨#[]⟩, .int .i64 0, .bool false, .bool false, .string ⟨#[]⟩, .int .i64 0, .string ⟨#[]⟩, .slice none 0 0, .slice none 0 0] (by rfl) (by rfl) (M_nulF0 _ _) hRv7 hbv7 (by omega) ?_; intro v1 w8 hR8 hB8 hg8 hat8; replace hat8 := Aside0.mk hat8; obtain ⟨g, cap, rfl, hgb, ⟨gc, hgc⟩, hcl, hfz⟩ := last_elem hR8; simp only [kF_sz] at hcl hfz; obtain ⟨u0, q0⟩ := hcl 0 (by omega); obtain ⟨u1, q1⟩ := hcl 1 (by omega); obtain ⟨u2, q2⟩ := hcl 2 (by omega); obtain ⟨u3, q3⟩ := hcl 3 (by omega); obtain ⟨u4, q4⟩ := hcl 4 (by omega); obtain ⟨u5, q5⟩ := hcl 5 (by omega); obtain ⟨u6, q6⟩ := hcl 6 (by omega); obtain ⟨u7, q7⟩ := hcl 7 (by omega); obtain ⟨u8, q8⟩ := hcl 8 (by omega); rw [Nat.add_zero] at q0; have hfz0 := hfz 0; rw [Nat.add_zero] at hfz0; clear hcl; have hva8 := blk_grown hva7 hg8 (fun e => by have := Kd.R_base hRv7 vb e.symm; omega); have hc8 := cellAll hva8; have hf8 := frozenAll hva8; unfold oCells at hc8; replace hR8 := Aside0.mk hR8; have hgv : vb ≠ g := (by omega); have hm8 := blk_grown hnb7 hg8 (own_ne hownF.out hnb7 (by decide)); have hx8 := blk_grown hx hg8 (own_ne hownF.out hx (by decide)); have hcm8 := cellAll hm8; have hcx8 := cellAll hx8; have hgn : g ≠ w2.heap.size := blk_ne hgc hm8 (by decide); have hgx : g ≠ w6.heap.size := blk_ne hgc hx8 (by decide); have hgn' := Ne.symm hgn; have hgx' := Ne.symm hgx))
        all_goals (go_wp2_with fail)
        all_goals go_ret
        all_goals (have hEnd := elem_end (f := 7) (x := x) (v := v) (w0 := w0) (E := E) (s := s) (o := o) (r := r) (res := res) hva6 hvW hRd.size (va := .slice A5 fs.length c5) hownW.out hty.out (by decide) (by decide) hMF.out rfl hG.out (by omega) (by omega) hB2 hB8 hR8.out hg8 hat8.out)
        all_goals (have hFin : ∀ F, (F = (w8.setCells g (fs.length * kF.sz) [.string name, .int .i64 x.kind, .bool x.truth, .bool x.neg, .string x.digits, .int .i64 x.exp, .string x.text, .slice Al x.list.length cl, .slice Af x.fields.length cf]).setCell ⟨vb, 7, none⟩ (.slice (some ⟨g, 0, none⟩) (fs.length + 1) cap) ∨ F = (w8.setCell ⟨vb, 7, none⟩ (.slice (some ⟨g, 0, none⟩) (fs.length + 1) cap)).setCells g (fs.length * kF.sz) [.string name, .int .i64 x.kind, .bool x.truth, .bool x.neg, .string x.digits, .int .i64 x.exp, .string x.text, .slice Al x.list.length cl, .slice Af x.fields.length cf]) → FieldGives E w0 s o r wv vb (.returned v) F (fieldOf fs name res) := fun F hF => field_fin (⟨((hEnd F hF).2.2.1.block _ (by omega)).trans hO6.rb, ((hEnd F hF).2.2.1.block _ (by omega)).trans hO6.out, ⟨_, (hEnd F hF).1, (hEnd F hF).2.1⟩, hO6.rd.low ((hEnd F hF).2.2.1.mono (by omega)), hlv, hlr⟩) (hEnd F hF).2.2.2)
        all_goals (refine hFin _ ?_)
        all_goals (simp only [World.setCells, kF_sz, Nat.add_assoc, Nat.reduceAdd, eq_self, true_or, or_true])
      · rw [if_neg h58]
        have cD := fun (W1 : World) (hW1 : RS E w0 s k o r W1) => due_no hW1 58 (by omega) h58
        generalize gapTo s k = j3 at *
        clear h58
        go_enter Tryz.func85, Tryz.ntmps85
        go_wp2_with (first
          | (go_at_call 109; refine (cD _ hR4.out).mono ?_; rintro e w5 ⟨v, rfl, ⟨kk, rfl, hk⟩, hR5, hW5⟩; replace hk := Aside0.mk hk)
          | (go_at_call 107; refine (cH _ A2 c2 w2.heap.size hRv3.out hnb.out).mono ?_; rintro e w4 ⟨rfl, hb4⟩; have hR4 := Aside0.mk (hR3.out.below hb4))
          | (go_at_call 86; refine (cT _ hR1).mono ?_; rintro e w2 ⟨rfl, hR2, hW2⟩; have hO2 := hcO.out.read ((Read.of_below hb1).trans hW2); obtain ⟨A2, c2, hva2, hRv2⟩ := hfl.out _ hO2; have hB3 := (Below.refl w2.heap.size w2).alloc (Nat.le_refl _) (.cells #[.string name] 9); have hva3 := (hB3.block _ (blk_lt hva2)).trans hva2; have hRv3 := Aside0.mk (Kd.R_below hRv2 hB3); have hnb := Aside0.mk (heap_alloc_new w2 (.cells #[.string name] 9)); have hc3 := cellAll hva3; have hR3 := Aside0.mk (hR2.below hB3); unfold oCells at hc3; replace hB3 := Aside0.mk hB3; clear hva3 hRv2 hva2)
          | (go_at_call 81; refine cN.mono ?_; rintro e w1 ⟨rfl, hR1, hb1⟩))
        go_ret
        exact FieldGives.fault (k := .due) hcO.out ((Read.of_below hb1).trans (hW2.trans ((Read.of_below hB3.out).trans ((Read.of_below hb4).trans hW5)))) hR5 hk.out
end Go.Proofs.YtkdeleafgailhaaGreatDoor
end
section
set_option linter.unusedVariables false
set_option linter.unusedSimpArgs false
namespace Go.Proofs.YtkdeleafgailhaaGreatDoor
open Go Go.RowKit Go.Proofs.YtkdeleafgailhaaGreatDoorW.PrintWords

/-! ### plain -/
def textVal (s : ByteArray) (i : Nat) : PR JV := match textAt s i with
  | .ok l j => .ok (.mk 3 false false ⟨#[]⟩ 0 ⟨l.toArray⟩ [] []) j
  | .no j k => .no j k
def preAt (s : ByteArray) (i : Nat) (p : List UInt8) : Bool := Lib.hasPrefix (s.extract i s.size).data.toList p
def litAt (s : ByteArray) (i : Nat) : PR JV :=
  if preAt s i [110, 117, 108, 108] = true then .ok JV.nul (i + 4)
  else if preAt s i [116, 114, 117, 101] = true then .ok (.mk 1 true false ⟨#[]⟩ 0 ⟨#[]⟩ [] []) (i + 4)
  else if preAt s i [102, 97, 108, 115, 101] = true then .ok (.mk 1 false false ⟨#[]⟩ 0 ⟨#[]⟩ [] []) (i + 5)
  else .no i .due

/-! ### the frame of value -/
/-- value's two first blocks: r's box, the result. -/
structure VW (E : ErrV) (w0 : World) (s : ByteArray) (r : Nat) (w : World) (W : World) : Prop where
  rb : W.heap[w.heap.size]? = some (.cells #[.pointer (some ⟨r, 0, none⟩)] 90 (0, 0))
  out : W.heap[w.heap.size + 1]? = some (.cells #[.int .i64 0, .bool false, .bool false, .string ⟨#[]⟩, .int .i64 0, .string ⟨#[]⟩, .slice none 0 0, .slice none 0 0] 27 (0, 0))
  rd : Read r w W
  lr : r < w.heap.size
theorem VW.read {E : ErrV} {w0 : World} {s : ByteArray} {r : Nat} {w W W' : World} (h : VW E w0 s r w W) (hr : Read r W W') : VW E w0 s r w W' := by
  have hlr := h.lr
  exact ⟨(hr.block _ (blk_lt h.rb) (by intro e; injection e with e; omega)).trans h.rb, (hr.block _ (blk_lt h.out) (by intro e; injection e with e; omega)).trans h.out, h.rd.trans hr, h.lr⟩
theorem VW.start {E : ErrV} {w0 : World} {s : ByteArray} {i o r : Nat} {w : World} (h : RS E w0 s i o r w) :
    VW E w0 s r w ((w.alloc (.cells #[.pointer (some ⟨r, 0, none⟩)] 90)).alloc (.cells #[.int .i64 0, .bool false, .bool false, .string ⟨#[]⟩, .int .i64 0, .string ⟨#[]⟩, .slice none 0 0, .slice none 0 0] 27)) ∧
    RS E w0 s i o r ((w.alloc (.cells #[.pointer (some ⟨r, 0, none⟩)] 90)).alloc (.cells #[.int .i64 0, .bool false, .bool false, .string ⟨#[]⟩, .int .i64 0, .string ⟨#[]⟩, .slice none 0 0, .slice none 0 0] 27)) := by
  have hb := ((Below.refl _ w).alloc (Nat.le_refl _) (.cells #[.pointer (some ⟨r, 0, none⟩)] 90)).alloc (by simp) (.cells #[.int .i64 0, .bool false, .bool false, .string ⟨#[]⟩, .int .i64 0, .string ⟨#[]⟩, .slice none 0 0, .slice none 0 0] 27)
  obtain ⟨e0, e1⟩ := boxes w (.cells #[.pointer (some ⟨r, 0, none⟩)] 90) (.cells #[.int .i64 0, .bool false, .bool false, .string ⟨#[]⟩, .int .i64 0, .string ⟨#[]⟩, .slice none 0 0, .slice none 0 0] 27)
  exact ⟨⟨e0, e1, Read.of_below hb, h.rd.lt⟩, h.below hb⟩
/-- The store of the result, eight cells. -/
theorem RS.out8 {E : ErrV} {w0 : World} {s : ByteArray} {i o r b : Nat} {W : World} (h : RS E w0 s i o r W) (hb : r ≠ b) (hw : w0.heap.size ≤ b) (vs : List Value) (j : Nat) : RS E w0 s i o r (W.setCells b j vs) := by
  obtain ⟨s1, s2, s3, s4⟩ := setCells_same b vs j W
  have hl : Below w0.heap.size W (W.setCells b j vs) := ⟨s1, s2, s3, by rw [s4]; exact Nat.le_refl _, fun k hk => setCells_far vs j k (by omega)⟩
  exact ⟨(setCells_far vs j r hb).trans h.rd, h.le, h.low.trans hl, h.errs, h.facts, h.size, h.at_le⟩
theorem Read.out8 {r b : Nat} {w W : World} (h : Read r w W) (hb : w.heap.size ≤ b) (vs : List Value) (j : Nat) : Read r w (W.setCells b j vs) := by
  obtain ⟨s1, s2, s3, s4⟩ := setCells_same b vs j W
  exact h.low ⟨s1, s2, s3, by rw [s4]; exact Nat.le_refl _, fun k hk => setCells_far vs j k (by omega)⟩
theorem VGot.out8 {E : ErrV} {w0 : World} {s : ByteArray} {o r b : Nat} {x : JV} {v : Value} {W : World} {res : PR JV} (h : VGot E w0 s o r x v W res) (hb : r ≠ b) (hw : w0.heap.size ≤ b) (hf : ∀ k c, W.heap[k]? = some (Obj.cells c 98 (0, 0)) → k ≠ b) (vs : List Value) (j : Nat) : VGot E w0 s o r x v (W.setCells b j vs) res := by
  cases res with
  | ok y k => exact ⟨h.1, h.2.1, h.2.2.out8 hb hw vs j⟩
  | no k e =>
    obtain ⟨⟨kk, rfl, hk⟩, j', o', hR⟩ := h
    exact ⟨⟨kk, rfl, (setCells_far vs j kk (hf kk _ hk)).trans hk⟩, j', o', hR.out8 hb hw vs j⟩
/-- The end of value: what was got stands behind the store into the result. -/
theorem val_end {E : ErrV} {w0 : World} {s : ByteArray} {o r : Nat} {w W : World} {x : JV} {v : Value} {cs : List Value} {res : PR JV} (hV : VW E w0 s r w W) (hw0 : w0.heap.size ≤ r) (hM : kV.M W (w.heap.size + 2) (fun _ => True) x cs) (hG : VGot E w0 s o r x v W res) :
    ValGives E w0 s o r w res (.returned (.tuple #[.agg cs.toArray, v])) (W.setCells (w.heap.size + 1) 0 cs) := by
  have hlr := hV.lr
  refine ⟨x, cs, v, rfl, ?_, hG.out8 (by omega) (by omega) (fun k c hk e => by subst e; rw [hV.out] at hk; injection hk with hk; injection hk with _ hk; revert hk; decide) cs 0, hV.rd.out8 (by omega) cs 0⟩
  have h1 : kV.M W (w.heap.size + 2) (fun k => w.heap.size + 2 ≤ k) x cs := kV.M_mono (fun k hk => hk.2.1) (kV.M_bound hM)
  have h2 : kV.M (W.setCells (w.heap.size + 1) 0 cs) (w.heap.size + 2) (fun k => w.heap.size + 2 ≤ k) x cs := Kd.M_step h1 (fun k hk hlt => setCells_far cs 0 k (by omega))
  have h3 : kV.M (W.setCells (w.heap.size + 1) 0 cs) w.heap.size (fun k => w.heap.size + 2 ≤ k) x cs := kV.M_lower (by omega) h2
  exact kV.M_mono (fun _ _ => trivial) h3

set_option maxRecDepth 100000 in
set_option maxHeartbeats 4000000 in
theorem val_text {E : ErrV} {w0 : World} {s : ByteArray} {i o r : Nat} {w : World} (h : RS E w0 s i o r w) (TT : TypeId) (pp : Value) (hv : w0.cell? ⟨14, 0, none⟩ = some (.iface TT pp)) (h34 : byteAt s i = 34) :
    Calls Tryz.prog 58 #[.pointer (some ⟨r, 0, none⟩)] w fun e w' => ValGives E w0 s o r w (textVal s i) e w' := by
  obtain ⟨hV0, hR0⟩ := VW.start h
  have hle := h.le
  have hc0 := cellAll hV0.rb
  have b1 : ((byteAt s i : Int) == 91) = false := by simp; omega
  have b2 : ((byteAt s i : Int) == 123) = false := by simp; omega
  have b3 : ((byteAt s i : Int) == 34) = true := by simp; omega
  have his : i < s.size := byteAt_in (by omega)
  have cN := next_s hR0
  have cT := fun (W1 : World) (hW1 : RS E w0 s i o r W1) => text_any hW1 TT pp hv his
  unfold textVal
  generalize textAt s i = tx at *
  replace hV0 := Aside0.mk hV0
  clear h34
  cases tx with
  | no j k =>
    simp only [TextGives] at cT
    go_enter Tryz.func58, Tryz.ntmps58
    go_wp2_with (first
      | (go_at_call 86; refine (cT _ hR1).mono ?_; rintro e w2 ⟨v, rfl, ⟨kk, rfl, hk⟩, hR2, hW2⟩; replace hk := Aside0.mk hk; have hV2 := hV1.out.read hW2; have hc2 := cellAll hV2.out; have hf2 := frozenAll hV2.out; replace hV2 := Aside0.mk hV2)
      | (go_at_call 81; refine cN.mono ?_; rintro e w1 ⟨rfl, hR1, hb1⟩; have hV1 := hV0.out.read (Read.of_below hb1); have hc1 := cellAll hV1.rb; replace hV1 := Aside0.mk hV1))
    exact bodyPost_ret (v := .tuple #[.agg #[.int .i64 3, .bool false, .bool false, .string ⟨#[]⟩, .int .i64 0, .string ⟨#[]⟩, .slice none 0 0, .slice none 0 0], .iface 94 (.pointer (some ⟨kk, 0, none⟩))]) (by simp [results, Tryz.results58, go_sem, hc2]) rfl (val_end (res := .no j k) hV2.out hle (kV_mkM (x := .mk 3 false false ⟨#[]⟩ 0 ⟨#[]⟩ [] []) (R_nilV _ _ _) (R_nilF _ _ _)) ⟨⟨kk, rfl, hk.out⟩, j, o, hR2⟩)
  | ok l j =>
    simp only [TextGives] at cT
    simp only
    generalize (⟨l.toArray⟩ : ByteArray) = t at *
    go_enter Tryz.func58, Tryz.ntmps58
    go_wp2_with (first
      | (go_at_call 86; refine (cT _ hR1).mono ?_; rintro e w2 ⟨rfl, hR2, hW2⟩; have hV2 := hV1.out.read hW2; have hc2 := cellAll hV2.out; have hf2 := frozenAll hV2.out; replace hV2 := Aside0.mk hV2)
      | (go_at_call 81; refine cN.mono ?_; rintro e w1 ⟨rfl, hR1, hb1⟩; have hV1 := hV0.out.read (Read.of_below hb1); have hc1 := cellAll hV1.rb; replace hV1 := Aside0.mk hV1))
    exact bodyPost_ret (v := .tuple #[.agg #[.int .i64 3, .bool false, .bool false, .string ⟨#[]⟩, .int .i64 0, .string t, .slice none 0 0, .slice none 0 0], .nilIface]) (by simp [results, Tryz.results58, go_sem, hc2]) rfl (val_end (res := .ok (.mk 3 false false ⟨#[]⟩ 0 t [] []) j) hV2.out hle (kV_mkM (x := .mk 3 false false ⟨#[]⟩ 0 t [] []) (R_nilV _ _ _) (R_nilF _ _ _)) ⟨rfl, rfl, hR2⟩)
end Go.Proofs.YtkdeleafgailhaaGreatDoor
end
