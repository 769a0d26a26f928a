/- record's reader: outcome. record.Decode: the state of its loop. -/
import Derived.Test.YtkdeleafgailhaaGreatDoorH24
import Derived.Test.YtkdeleafgailhaaGreatDoorH28
import Derived.Test.YtkdeleafgailhaaGreatDoorH25
section
set_option linter.unusedVariables false
set_option linter.unusedSimpArgs false
namespace Go.Proofs.YtkdeleafgailhaaGreatDoor
open Go Go.RowKit Go.Proofs.YtkdeleafgailhaaGreatDoorW.PrintWords

def Outc.cells (o : Outc) (vs : List Value) : List Value := .bool o.fine :: (vs ++ [.string ⟨o.err.toArray⟩, .string ⟨o.cause.toArray⟩])
def Outc.nul : Outc := ⟨false, JV.nul, [], []⟩
def OutRB (w0 : World) (r : Nat) (w' : World) (o : Outc) : Option (Outc × List UInt8) → Prop
  | some (o', rest) => o = o' ∧ RB w0 r rest false w'
  | none => ∃ b', RB w0 r b' true w'
def OutGives (w0 : World) (r : Nat) (w : World) (res : Option (Outc × List UInt8)) (e : Ending) (w' : World) : Prop :=
  ∃ (o : Outc) (vs : List Value), e = .returned (.agg (o.cells vs).toArray) ∧ kV.M w' w.heap.size (fun _ => True) o.value vs ∧ Read r w w' ∧ OutRB w0 r w' o res
theorem RB.only {w0 : World} {r : Nat} {b : List UInt8} {wrong : Bool} {W W' : World} {B : Nat} (h : RB w0 r b wrong W) (hb : Read B W W') (hB : w0.heap.size ≤ B) (hne : r ≠ B) : RB w0 r b wrong W' := by
  obtain ⟨A, c, h1, h2⟩ := h.blk
  exact ⟨⟨A, c, (hb.block r (blk_lt h1) (fun e => by injection e with e; exact hne e)).trans h1, h2⟩, h.le, h.low.trans (hb.below hB h.low.size)⟩
theorem Read.only {r B : Nat} {w W W' : World} (h : Read r w W) (hb : Read B W W') (hB : w.heap.size ≤ B) : Read r w W' :=
  ⟨hb.os.trans h.os, hb.tape.trans h.tape, hb.output.trans h.output, Nat.le_trans h.size hb.size, fun k hk hne => (hb.block k (Nat.lt_of_lt_of_le hk h.size) (fun e => by injection e with e; omega)).trans (h.block k hk hne)⟩
theorem M_only {W W' : World} {base B : Nat} {ok : Nat → Prop} {x : JV} {cs : List Value} (h : kV.M W base ok x cs) (hb : Read B W W') (hB : B < base) : kV.M W' base (fun _ => True) x cs :=
  kV.M_mono (fun _ _ => trivial) (kV.M_move (fun k hk => hb.block k hk.2.2.1 (fun e => by injection e with e; have := hk.2.1; omega)) (kV.M_bound h))
theorem nul_M (W : World) (base : Nat) : kV.M W base (fun _ => True) JV.nul nulCells := kV_mkM (x := JV.nul) (R_nilV _ _ _) (R_nilF _ _ _)
theorem out_end {w0 : World} {r : Nat} {b : List UInt8} {wrong : Bool} {w W W' : World} {res : Option (Outc × List UInt8)} {e : Ending} (o : Outc) (vs : List Value) (he : e = .returned (.agg (o.cells vs).toArray)) (hRB : RB w0 r b wrong W) (hrd : Read r w W) (hrl : r < w.heap.size) (hw0 : w0.heap.size ≤ w.heap.size) (hch : Read w.heap.size W W') (hK : kV.M W' w.heap.size (fun _ => True) o.value vs) (hres : RB w0 r b wrong W' → OutRB w0 r W' o res) : OutGives w0 r w res e W' :=
  ⟨o, vs, he, hK, hrd.only hch (Nat.le_refl _), hres (hRB.only hch hw0 (by omega))⟩
set_option maxRecDepth 100000 in
set_option maxHeartbeats 16000000 in
/-- No byte. -/
theorem rout_nil {w0 : World} {r : Nat} {w : World} (h : RB w0 r [] false w) :
    Calls Tryz.prog 54 #[.pointer (some ⟨r, 0, none⟩)] w fun e w' => OutGives w0 r w none e w' := by
  have hrl : r < w.heap.size := by obtain ⟨A, c, h1, _⟩ := h.blk; exact blk_lt h1
  have hb0 := (Below.refl w.heap.size w).alloc (Nat.le_refl _) (.cells #[.bool false, .int .i64 0, .bool false, .bool false, .string ⟨#[]⟩, .int .i64 0, .string ⟨#[]⟩, .slice none 0 0, .slice none 0 0, .string ⟨#[]⟩, .string ⟨#[]⟩] 46)
  have hbx := heap_alloc_new w (.cells #[.bool false, .int .i64 0, .bool false, .bool false, .string ⟨#[]⟩, .int .i64 0, .string ⟨#[]⟩, .slice none 0 0, .slice none 0 0, .string ⟨#[]⟩, .string ⟨#[]⟩] 46)
  have hRB0 := h.below hb0
  have hr0 := Read.of_below (r := r) hb0
  have hw0 : w0.heap.size ≤ w.heap.size := h.low.size
  have cC := cut_no hRB0 1 (by simp)
  replace hbx := Aside0.mk hbx
  replace hr0 := Aside0.mk hr0
  clear hRB0 h hb0
  go_enter Tryz.func54, Tryz.ntmps54
  go_wp2_with (go_at_call 50; refine cC.mono ?_; rintro e w1 ⟨rfl, h1, hr1⟩; have hc1 := h1.cells.1; have hf1 := h1.cells.2; have hbx1 := Aside0.mk ((hr1.block w.heap.size (blk_lt hbx.out) (by intro e; injection e with e; omega)).trans hbx.out); have hcB := cellAll hbx1.out; have hfB := frozenAll hbx1.out; obtain ⟨h2, hr2⟩ := h1.set_w (hr0.out.trans hr1) true; replace h2 := Aside0.mk h2; replace hr2 := Aside0.mk hr2; have hne : w.heap.size ≠ r := (by omega))
  exact bodyPost_ret (v := .agg #[.bool false, .int .i64 0, .bool false, .bool false, .string ⟨#[]⟩, .int .i64 0, .string ⟨#[]⟩, .slice none 0 0, .slice none 0 0, .string ⟨#[]⟩, .string ⟨#[]⟩]) (by simp [results, Tryz.results54, go_sem, hcB]) rfl (out_end Outc.nul nulCells rfl h2.out hr2.out hrl hw0 (by (iterate 11 refine Read.set_ ?_ _ _); exact Read.refl _ _) (nul_M _ _) (fun h => ⟨_, h⟩))
set_option maxRecDepth 100000 in
set_option maxHeartbeats 16000000 in
/-- A byte above 1. -/
theorem rout_great {w0 : World} {r : Nat} {c : UInt8} {bs : List UInt8} {w : World} (h : RB w0 r (c :: bs) false w) (hc1 : 1 < c.toNat) :
    Calls Tryz.prog 54 #[.pointer (some ⟨r, 0, none⟩)] w fun e w' => OutGives w0 r w none e w' := by
  have hrl : r < w.heap.size := by obtain ⟨A, c, h1, _⟩ := h.blk; exact blk_lt h1
  have hb0 := (Below.refl w.heap.size w).alloc (Nat.le_refl _) (.cells #[.bool false, .int .i64 0, .bool false, .bool false, .string ⟨#[]⟩, .int .i64 0, .string ⟨#[]⟩, .slice none 0 0, .slice none 0 0, .string ⟨#[]⟩, .string ⟨#[]⟩] 46)
  have hbx := heap_alloc_new w (.cells #[.bool false, .int .i64 0, .bool false, .bool false, .string ⟨#[]⟩, .int .i64 0, .string ⟨#[]⟩, .slice none 0 0, .slice none 0 0, .string ⟨#[]⟩, .string ⟨#[]⟩] 46)
  have hRB0 := h.below hb0
  have hr0 := Read.of_below (r := r) hb0
  have hw0 : w0.heap.size ≤ w.heap.size := h.low.size
  have cC : Calls Tryz.prog 50 #[.pointer (some ⟨r, 0, none⟩), .int .i64 1] (w.alloc (.cells #[.bool false, .int .i64 0, .bool false, .bool false, .string ⟨#[]⟩, .int .i64 0, .string ⟨#[]⟩, .slice none 0 0, .slice none 0 0, .string ⟨#[]⟩, .string ⟨#[]⟩] 46)) fun e w' => ∃ ad, e = .returned (.slice (some ad) 1 1) ∧ w'.cell? ad = some (.int .u8 c.toNat) ∧ ad.block < w0.heap.size ∧ RB w0 r bs false w' ∧ Read r (w.alloc (.cells #[.bool false, .int .i64 0, .bool false, .bool false, .string ⟨#[]⟩, .int .i64 0, .string ⟨#[]⟩, .slice none 0 0, .slice none 0 0, .string ⟨#[]⟩, .string ⟨#[]⟩] 46)) w' := by
    refine (cut_ok hRB0 1 (by simp)).mono ?_
    rintro e w' ⟨A, rfl, hR, h1, h2⟩
    obtain ⟨ad, e, hc⟩ := hR.2.2 (by omega)
    subst e
    have h0 := hc 0 (by omega)
    have ha : ad.add 0 = ad := by simp [Addr.add]
    rw [ha] at h0
    exact ⟨ad, rfl, pw_cell_below h1.low h0, World.block_lt_of_cell? _ _ h0, h1, h2⟩
  replace hbx := Aside0.mk hbx
  replace hr0 := Aside0.mk hr0
  clear hRB0 h hb0
  generalize c.toNat = cn at *
  go_enter Tryz.func54, Tryz.ntmps54
  go_wp2_with (go_at_call 50; refine cC.mono ?_; rintro e w1 ⟨ad, rfl, hca, hadb, h1, hr1⟩; have hc1 := h1.cells.1; have hf1 := h1.cells.2; have hbx1 := Aside0.mk ((hr1.block w.heap.size (blk_lt hbx.out) (by intro e; injection e with e; omega)).trans hbx.out); have hcB := cellAll hbx1.out; have hfB := frozenAll hbx1.out; obtain ⟨h2, hr2⟩ := h1.set_w (hr0.out.trans hr1) true; replace h2 := Aside0.mk h2; replace hr2 := Aside0.mk hr2; have hne : w.heap.size ≠ r := (by omega))
  exact bodyPost_ret (v := .agg #[.bool false, .int .i64 0, .bool false, .bool false, .string ⟨#[]⟩, .int .i64 0, .string ⟨#[]⟩, .slice none 0 0, .slice none 0 0, .string ⟨#[]⟩, .string ⟨#[]⟩]) (by simp [results, Tryz.results54, go_sem, hcB]) rfl (out_end Outc.nul nulCells rfl h2.out hr2.out hrl hw0 (by (iterate 11 refine Read.set_ ?_ _ _); exact Read.refl _ _) (nul_M _ _) (fun h => ⟨_, h⟩))
set_option maxRecDepth 100000 in
set_option maxHeartbeats 16000000 in
theorem rout_z1 {w0 : World} {r : Nat} {c : UInt8} {bs : List UInt8} {w : World} (h : RB w0 r (c :: bs) false w) (hc0 : c.toNat = 0) (ht : textD bs = none) :
    Calls Tryz.prog 54 #[.pointer (some ⟨r, 0, none⟩)] w fun e w' => OutGives w0 r w (none) e w' := by
  have hrl : r < w.heap.size := by obtain ⟨A, c, h1, _⟩ := h.blk; exact blk_lt h1
  have hb0 := (Below.refl w.heap.size w).alloc (Nat.le_refl _) (.cells #[.bool false, .int .i64 0, .bool false, .bool false, .string ⟨#[]⟩, .int .i64 0, .string ⟨#[]⟩, .slice none 0 0, .slice none 0 0, .string ⟨#[]⟩, .string ⟨#[]⟩] 46)
  have hbx := heap_alloc_new w (.cells #[.bool false, .int .i64 0, .bool false, .bool false, .string ⟨#[]⟩, .int .i64 0, .string ⟨#[]⟩, .slice none 0 0, .slice none 0 0, .string ⟨#[]⟩, .string ⟨#[]⟩] 46)
  have hRB0 := h.below hb0
  have hr0 := Read.of_below (r := r) hb0
  have hw0 : w0.heap.size ≤ w.heap.size := h.low.size
  have cC : Calls Tryz.prog 50 #[.pointer (some ⟨r, 0, none⟩), .int .i64 1] (w.alloc (.cells #[.bool false, .int .i64 0, .bool false, .bool false, .string ⟨#[]⟩, .int .i64 0, .string ⟨#[]⟩, .slice none 0 0, .slice none 0 0, .string ⟨#[]⟩, .string ⟨#[]⟩] 46)) fun e w' => ∃ ad, e = .returned (.slice (some ad) 1 1) ∧ w'.cell? ad = some (.int .u8 c.toNat) ∧ ad.block < w0.heap.size ∧ RB w0 r bs false w' ∧ Read r (w.alloc (.cells #[.bool false, .int .i64 0, .bool false, .bool false, .string ⟨#[]⟩, .int .i64 0, .string ⟨#[]⟩, .slice none 0 0, .slice none 0 0, .string ⟨#[]⟩, .string ⟨#[]⟩] 46)) w' := by
    refine (cut_ok hRB0 1 (by simp)).mono ?_
    rintro e w' ⟨A, rfl, hR, h1, h2⟩
    obtain ⟨ad, e, hc⟩ := hR.2.2 (by omega)
    subst e
    have h0 := hc 0 (by omega)
    have ha : ad.add 0 = ad := by simp [Addr.add]
    rw [ha] at h0
    exact ⟨ad, rfl, pw_cell_below h1.low h0, World.block_lt_of_cell? _ _ h0, h1, h2⟩
  replace hbx := Aside0.mk hbx
  replace hr0 := Aside0.mk hr0
  clear hRB0 h hb0
  rw [hc0] at cC
  clear hc0
  go_enter Tryz.func54, Tryz.ntmps54
  go_wp2_with (first
    | (go_at_call 51; refine (rtext_bad h2).mono ?_; rintro e w3 ⟨rfl, ⟨b3, h3⟩, hr3⟩; have hbx3 := Aside0.mk ((hr3.block w.heap.size (blk_lt hbx2.out) (by intro e; injection e with e; omega)).trans hbx2.out); have hcB := cellAll hbx3.out; have hfB := frozenAll hbx3.out; have hrd3 := Aside0.mk (hrd2.out.trans hr3))
    | (go_at_call 51; refine (show Calls _ _ _ _ (fun e w' => TxtGives w0 r w1 none e w') from ht ▸ rtext_any h1).mono ?_; rintro e w2 ⟨rfl, ⟨b2, h2⟩, hr2⟩; have hbx2 := Aside0.mk ((hr2.block w.heap.size (blk_lt hbx1.out) (by intro e; injection e with e; omega)).trans hbx1.out); have hrd2 := Aside0.mk ((hr0.out.trans hr1).trans hr2); clear hcB hfB)
    | (go_at_call 50; refine cC.mono ?_; rintro e w1 ⟨ad, rfl, hca, hadb, h1, hr1⟩; have hc1 := h1.cells.1; have hf1 := h1.cells.2; have hbx1 := Aside0.mk ((hr1.block w.heap.size (blk_lt hbx.out) (by intro e; injection e with e; omega)).trans hbx.out); have hcB := cellAll hbx1.out; have hfB := frozenAll hbx1.out))
  exact bodyPost_ret (v := .agg #[.bool false, .int .i64 0, .bool false, .bool false, .string ⟨#[]⟩, .int .i64 0, .string ⟨#[]⟩, .slice none 0 0, .slice none 0 0, .string ⟨#[]⟩, .string ⟨#[]⟩]) (by simp [results, Tryz.results54, go_sem, hcB]) rfl (out_end ⟨false, JV.nul, [], []⟩ nulCells rfl h3 hrd3.out hrl hw0 (by (iterate 11 refine Read.set_ ?_ _ _); exact Read.refl _ _) (nul_M _ _) (fun h => ⟨_, h⟩))
set_option maxRecDepth 100000 in
set_option maxHeartbeats 16000000 in
theorem rout_z2 {w0 : World} {r : Nat} {c : UInt8} {bs : List UInt8} {w : World} (h : RB w0 r (c :: bs) false w) (hc0 : c.toNat = 0) {s1 b1 : List UInt8} (ht : textD bs = some (s1, b1)) (ht2 : textD b1 = none) :
    Calls Tryz.prog 54 #[.pointer (some ⟨r, 0, none⟩)] w fun e w' => OutGives w0 r w (none) e w' := by
  have hrl : r < w.heap.size := by obtain ⟨A, c, h1, _⟩ := h.blk; exact blk_lt h1
  have hb0 := (Below.refl w.heap.size w).alloc (Nat.le_refl _) (.cells #[.bool false, .int .i64 0, .bool false, .bool false, .string ⟨#[]⟩, .int .i64 0, .string ⟨#[]⟩, .slice none 0 0, .slice none 0 0, .string ⟨#[]⟩, .string ⟨#[]⟩] 46)
  have hbx := heap_alloc_new w (.cells #[.bool false, .int .i64 0, .bool false, .bool false, .string ⟨#[]⟩, .int .i64 0, .string ⟨#[]⟩, .slice none 0 0, .slice none 0 0, .string ⟨#[]⟩, .string ⟨#[]⟩] 46)
  have hRB0 := h.below hb0
  have hr0 := Read.of_below (r := r) hb0
  have hw0 : w0.heap.size ≤ w.heap.size := h.low.size
  have cC : Calls Tryz.prog 50 #[.pointer (some ⟨r, 0, none⟩), .int .i64 1] (w.alloc (.cells #[.bool false, .int .i64 0, .bool false, .bool false, .string ⟨#[]⟩, .int .i64 0, .string ⟨#[]⟩, .slice none 0 0, .slice none 0 0, .string ⟨#[]⟩, .string ⟨#[]⟩] 46)) fun e w' => ∃ ad, e = .returned (.slice (some ad) 1 1) ∧ w'.cell? ad = some (.int .u8 c.toNat) ∧ ad.block < w0.heap.size ∧ RB w0 r bs false w' ∧ Read r (w.alloc (.cells #[.bool false, .int .i64 0, .bool false, .bool false, .string ⟨#[]⟩, .int .i64 0, .string ⟨#[]⟩, .slice none 0 0, .slice none 0 0, .string ⟨#[]⟩, .string ⟨#[]⟩] 46)) w' := by
    refine (cut_ok hRB0 1 (by simp)).mono ?_
    rintro e w' ⟨A, rfl, hR, h1, h2⟩
    obtain ⟨ad, e, hc⟩ := hR.2.2 (by omega)
    subst e
    have h0 := hc 0 (by omega)
    have ha : ad.add 0 = ad := by simp [Addr.add]
    rw [ha] at h0
    exact ⟨ad, rfl, pw_cell_below h1.low h0, World.block_lt_of_cell? _ _ h0, h1, h2⟩
  replace hbx := Aside0.mk hbx
  replace hr0 := Aside0.mk hr0
  clear hRB0 h hb0
  rw [hc0] at cC
  clear hc0
  go_enter Tryz.func54, Tryz.ntmps54
  go_wp2_with (first
    | (go_at_call 51; refine (show Calls _ _ _ _ (fun e w' => TxtGives w0 r w2 none e w') from ht2 ▸ rtext_any h2).mono ?_; rintro e w3 ⟨rfl, ⟨b3, h3⟩, hr3⟩; have hbx3 := Aside0.mk ((hr3.block w.heap.size (blk_lt hbx2.out) (by intro e; injection e with e; omega)).trans hbx2.out); have hcB := cellAll hbx3.out; have hfB := frozenAll hbx3.out; have hrd3 := Aside0.mk (hrd2.out.trans hr3))
    | (go_at_call 51; refine (show Calls _ _ _ _ (fun e w' => TxtGives w0 r w1 (some (s1, b1)) e w') from ht ▸ rtext_any h1).mono ?_; rintro e w2 ⟨rfl, h2, hr2⟩; have hbx2 := Aside0.mk ((hr2.block w.heap.size (blk_lt hbx1.out) (by intro e; injection e with e; omega)).trans hbx1.out); have hrd2 := Aside0.mk ((hr0.out.trans hr1).trans hr2); clear hcB hfB)
    | (go_at_call 50; refine cC.mono ?_; rintro e w1 ⟨ad, rfl, hca, hadb, h1, hr1⟩; have hc1 := h1.cells.1; have hf1 := h1.cells.2; have hbx1 := Aside0.mk ((hr1.block w.heap.size (blk_lt hbx.out) (by intro e; injection e with e; omega)).trans hbx.out); have hcB := cellAll hbx1.out; have hfB := frozenAll hbx1.out))
  exact bodyPost_ret (v := .agg #[.bool false, .int .i64 0, .bool false, .bool false, .string ⟨#[]⟩, .int .i64 0, .string ⟨#[]⟩, .slice none 0 0, .slice none 0 0, .string ⟨s1.toArray⟩, .string ⟨#[]⟩]) (by simp [results, Tryz.results54, go_sem, hcB]) rfl (out_end ⟨false, JV.nul, s1, []⟩ nulCells rfl h3 hrd3.out hrl hw0 (by (iterate 11 refine Read.set_ ?_ _ _); exact Read.refl _ _) (nul_M _ _) (fun h => ⟨_, h⟩))
set_option maxRecDepth 100000 in
set_option maxHeartbeats 16000000 in
theorem rout_z3 {w0 : World} {r : Nat} {c : UInt8} {bs : List UInt8} {w : World} (h : RB w0 r (c :: bs) false w) (hc0 : c.toNat = 0) {s1 b1 s2 b2 : List UInt8} (ht : textD bs = some (s1, b1)) (ht2 : textD b1 = some (s2, b2)) :
    Calls Tryz.prog 54 #[.pointer (some ⟨r, 0, none⟩)] w fun e w' => OutGives w0 r w (some (⟨false, JV.nul, s1, s2⟩, b2)) e w' := by
  have hrl : r < w.heap.size := by obtain ⟨A, c, h1, _⟩ := h.blk; exact blk_lt h1
  have hb0 := (Below.refl w.heap.size w).alloc (Nat.le_refl _) (.cells #[.bool false, .int .i64 0, .bool false, .bool false, .string ⟨#[]⟩, .int .i64 0, .string ⟨#[]⟩, .slice none 0 0, .slice none 0 0, .string ⟨#[]⟩, .string ⟨#[]⟩] 46)
  have hbx := heap_alloc_new w (.cells #[.bool false, .int .i64 0, .bool false, .bool false, .string ⟨#[]⟩, .int .i64 0, .string ⟨#[]⟩, .slice none 0 0, .slice none 0 0, .string ⟨#[]⟩, .string ⟨#[]⟩] 46)
  have hRB0 := h.below hb0
  have hr0 := Read.of_below (r := r) hb0
  have hw0 : w0.heap.size ≤ w.heap.size := h.low.size
  have cC : Calls Tryz.prog 50 #[.pointer (some ⟨r, 0, none⟩), .int .i64 1] (w.alloc (.cells #[.bool false, .int .i64 0, .bool false, .bool false, .string ⟨#[]⟩, .int .i64 0, .string ⟨#[]⟩, .slice none 0 0, .slice none 0 0, .string ⟨#[]⟩, .string ⟨#[]⟩] 46)) fun e w' => ∃ ad, e = .returned (.slice (some ad) 1 1) ∧ w'.cell? ad = some (.int .u8 c.toNat) ∧ ad.block < w0.heap.size ∧ RB w0 r bs false w' ∧ Read r (w.alloc (.cells #[.bool false, .int .i64 0, .bool false, .bool false, .string ⟨#[]⟩, .int .i64 0, .string ⟨#[]⟩, .slice none 0 0, .slice none 0 0, .string ⟨#[]⟩, .string ⟨#[]⟩] 46)) w' := by
    refine (cut_ok hRB0 1 (by simp)).mono ?_
    rintro e w' ⟨A, rfl, hR, h1, h2⟩
    obtain ⟨ad, e, hc⟩ := hR.2.2 (by omega)
    subst e
    have h0 := hc 0 (by omega)
    have ha : ad.add 0 = ad := by simp [Addr.add]
    rw [ha] at h0
    exact ⟨ad, rfl, pw_cell_below h1.low h0, World.block_lt_of_cell? _ _ h0, h1, h2⟩
  replace hbx := Aside0.mk hbx
  replace hr0 := Aside0.mk hr0
  clear hRB0 h hb0
  rw [hc0] at cC
  clear hc0
  go_enter Tryz.func54, Tryz.ntmps54
  go_wp2_with (first
    | (go_at_call 51; refine (show Calls _ _ _ _ (fun e w' => TxtGives w0 r w2 (some (s2, b2)) e w') from ht2 ▸ rtext_any h2).mono ?_; rintro e w3 ⟨rfl, h3, hr3⟩; have hbx3 := Aside0.mk ((hr3.block w.heap.size (blk_lt hbx2.out) (by intro e; injection e with e; omega)).trans hbx2.out); have hcB := cellAll hbx3.out; have hfB := frozenAll hbx3.out; have hrd3 := Aside0.mk (hrd2.out.trans hr3))
    | (go_at_call 51; refine (show Calls _ _ _ _ (fun e w' => TxtGives w0 r w1 (some (s1, b1)) e w') from ht ▸ rtext_any h1).mono ?_; rintro e w2 ⟨rfl, h2, hr2⟩; have hbx2 := Aside0.mk ((hr2.block w.heap.size (blk_lt hbx1.out) (by intro e; injection e with e; omega)).trans hbx1.out); have hrd2 := Aside0.mk ((hr0.out.trans hr1).trans hr2); clear hcB hfB)
    | (go_at_call 50; refine cC.mono ?_; rintro e w1 ⟨ad, rfl, hca, hadb, h1, hr1⟩; have hc1 := h1.cells.1; have hf1 := h1.cells.2; have hbx1 := Aside0.mk ((hr1.block w.heap.size (blk_lt hbx.out) (by intro e; injection e with e; omega)).trans hbx.out); have hcB := cellAll hbx1.out; have hfB := frozenAll hbx1.out))
  exact bodyPost_ret (v := .agg #[.bool false, .int .i64 0, .bool false, .bool false, .string ⟨#[]⟩, .int .i64 0, .string ⟨#[]⟩, .slice none 0 0, .slice none 0 0, .string ⟨s1.toArray⟩, .string ⟨s2.toArray⟩]) (by simp [results, Tryz.results54, go_sem, hcB]) rfl (out_end ⟨false, JV.nul, s1, s2⟩ nulCells rfl h3 hrd3.out hrl hw0 (by (iterate 11 refine Read.set_ ?_ _ _); exact Read.refl _ _) (nul_M _ _) (fun h => ⟨rfl, h⟩))
set_option maxRecDepth 100000 in
set_option maxHeartbeats 16000000 in
theorem rout_fault {w0 : World} {r : Nat} {c : UInt8} {bs : List UInt8} {w : World} (E : ErrV) (h : RB w0 r (c :: bs) false w) (hc0 : c.toNat = 1) (hP : PEnv E w0) (S : ByteArray) (wr : Bool) (cT : ∀ W, RB w0 r bs false W → Calls Tryz.prog 51 #[.pointer (some ⟨r, 0, none⟩)] W fun e w' => e = .returned (.string S) ∧ (∃ b2, RB w0 r b2 wr w') ∧ Read r W w') (hS : 1048576 < S.size ∨ ∃ k e, parseTo S = .no k e) :
    Calls Tryz.prog 54 #[.pointer (some ⟨r, 0, none⟩)] w fun e w' => OutGives w0 r w none e w' := by
  have cP := fun (W : World) (hb : Below w0.heap.size w0 W) => parse_fault E S W (hP.below hb) hS
  clear hS
  have hrl : r < w.heap.size := by obtain ⟨A, c, h1, _⟩ := h.blk; exact blk_lt h1
  have hb0 := (Below.refl w.heap.size w).alloc (Nat.le_refl _) (.cells #[.bool false, .int .i64 0, .bool false, .bool false, .string ⟨#[]⟩, .int .i64 0, .string ⟨#[]⟩, .slice none 0 0, .slice none 0 0, .string ⟨#[]⟩, .string ⟨#[]⟩] 46)
  have hbx := heap_alloc_new w (.cells #[.bool false, .int .i64 0, .bool false, .bool false, .string ⟨#[]⟩, .int .i64 0, .string ⟨#[]⟩, .slice none 0 0, .slice none 0 0, .string ⟨#[]⟩, .string ⟨#[]⟩] 46)
  have hRB0 := h.below hb0
  have hr0 := Read.of_below (r := r) hb0
  have hw0 : w0.heap.size ≤ w.heap.size := h.low.size
  have cC : Calls Tryz.prog 50 #[.pointer (some ⟨r, 0, none⟩), .int .i64 1] (w.alloc (.cells #[.bool false, .int .i64 0, .bool false, .bool false, .string ⟨#[]⟩, .int .i64 0, .string ⟨#[]⟩, .slice none 0 0, .slice none 0 0, .string ⟨#[]⟩, .string ⟨#[]⟩] 46)) fun e w' => ∃ ad, e = .returned (.slice (some ad) 1 1) ∧ w'.cell? ad = some (.int .u8 c.toNat) ∧ ad.block < w0.heap.size ∧ RB w0 r bs false w' ∧ Read r (w.alloc (.cells #[.bool false, .int .i64 0, .bool false, .bool false, .string ⟨#[]⟩, .int .i64 0, .string ⟨#[]⟩, .slice none 0 0, .slice none 0 0, .string ⟨#[]⟩, .string ⟨#[]⟩] 46)) w' := by
    refine (cut_ok hRB0 1 (by simp)).mono ?_
    rintro e w' ⟨A, rfl, hR, h1, h2⟩
    obtain ⟨ad, e, hc⟩ := hR.2.2 (by omega)
    subst e
    have h0 := hc 0 (by omega)
    have ha : ad.add 0 = ad := by simp [Addr.add]
    rw [ha] at h0
    exact ⟨ad, rfl, pw_cell_below h1.low h0, World.block_lt_of_cell? _ _ h0, h1, h2⟩
  replace hbx := Aside0.mk hbx
  replace hr0 := Aside0.mk hr0
  clear hRB0 h hb0
  rw [hc0] at cC
  clear hc0
  have hne : w.heap.size ≠ r := by omega
  go_enter Tryz.func54, Tryz.ntmps54
  go_wp2_with (first
    | (go_at_call 27; refine (cP w2 h2.low).mono ?_; rintro e w3 ⟨k, kk, ae, rfl, _, _, _, _, hb3⟩; have hb4 := (Below.refl w3.heap.size w3).alloc (Nat.le_refl _) (.cells #[.int .i64 0, .bool false, .bool false, .string ⟨#[]⟩, .int .i64 0, .string ⟨#[]⟩, .slice none 0 0, .slice none 0 0] 27); have hbv := heap_alloc_new w3 (.cells #[.int .i64 0, .bool false, .bool false, .string ⟨#[]⟩, .int .i64 0, .string ⟨#[]⟩, .slice none 0 0, .slice none 0 0] 27); have hcv := cellAll hbv; have hb34 := hb3.trans (hb4.mono hb3.size); have h4 := h2.below hb34; have hc4 := h4.cells.1; have hf4 := h4.cells.2; have hcB := cellAll ((hb34.block _ (blk_lt hbx2.out)).trans hbx2.out); have hfB := frozenAll ((hb34.block _ (blk_lt hbx2.out)).trans hbx2.out); obtain ⟨h5, hr5⟩ := h4.set_w (hrd2.out.trans (Read.of_below hb34)) true; replace h5 := Aside0.mk h5; replace hr5 := Aside0.mk hr5; have hnv : w3.heap.size ≠ r := (by have := blk_lt hbx2.out; have := hb3.size; omega); replace hbv := Aside0.mk hbv; clear hb3 hb4 hb34 h4)
    | (go_at_call 51; refine (cT w1 h1).mono ?_; rintro e w2 ⟨rfl, ⟨b2, h2⟩, hr2⟩; have hbx2 := Aside0.mk ((hr2.block w.heap.size (blk_lt hbx1.out) (by intro e; injection e with e; omega)).trans hbx1.out); have hrd2 := Aside0.mk ((hr0.out.trans hr1).trans hr2); clear hcB hfB)
    | (go_at_call 50; refine cC.mono ?_; rintro e w1 ⟨ad, rfl, hca, hadb, h1, hr1⟩; have hc1 := h1.cells.1; have hf1 := h1.cells.2; have hbx1 := Aside0.mk ((hr1.block w.heap.size (blk_lt hbx.out) (by intro e; injection e with e; omega)).trans hbx.out); have hcB := cellAll hbx1.out; have hfB := frozenAll hbx1.out))
  all_goals exact bodyPost_ret (v := .agg #[.bool true, .int .i64 0, .bool false, .bool false, .string ⟨#[]⟩, .int .i64 0, .string ⟨#[]⟩, .slice none 0 0, .slice none 0 0, .string ⟨#[]⟩, .string ⟨#[]⟩]) (by simp [results, Tryz.results54, go_sem, hcB]) rfl (out_end ⟨true, JV.nul, [], []⟩ nulCells rfl h5.out hr5.out hrl hw0 (by (iterate 11 refine Read.set_ ?_ _ _); exact Read.refl _ _) (nul_M _ _) (fun h => ⟨_, h⟩))
set_option maxRecDepth 100000 in
set_option maxHeartbeats 16000000 in
theorem rout_good {w0 : World} {r : Nat} {c : UInt8} {bs s rest : List UInt8} {w : World} (E : ErrV) (h : RB w0 r (c :: bs) false w) (hc0 : c.toNat = 1) (hP : PEnv E w0) (ht : textD bs = some (s, rest)) (hs : s.length ≤ 1048576) {x : JV} {j : Nat} (hok : parseTo ⟨s.toArray⟩ = .ok x j) (he : x.print = s) :
    Calls Tryz.prog 54 #[.pointer (some ⟨r, 0, none⟩)] w fun e w' => OutGives w0 r w (some (⟨true, x, [], []⟩, rest)) e w' := by
  have hsz := size_of_l s
  have hpw := parse_wt (by omega) hok
  have hpwt := hpw.1
  have hpin := hpw.2
  have cP : ∀ (W : World), Below w0.heap.size w0 W → Calls Tryz.prog 27 #[.string ⟨s.toArray⟩] W fun e w' => ∃ Al cl Af cf, e = .returned (.tuple #[.agg #[.int .i64 x.kind, .bool x.truth, .bool x.neg, .string x.digits, .int .i64 x.exp, .string x.text, .slice Al x.list.length cl, .slice Af x.fields.length cf], .nilIface]) ∧ kV.M w' W.heap.size (fun _ => True) x [.int .i64 x.kind, .bool x.truth, .bool x.neg, .string x.digits, .int .i64 x.exp, .string x.text, .slice Al x.list.length cl, .slice Af x.fields.length cf] ∧ Below W.heap.size W w' := by
    intro W hb
    have h2 := parse_any E ⟨s.toArray⟩ W (by omega) (hP.below hb)
    rw [hok] at h2
    refine h2.mono ?_
    rintro e w' ⟨cs', rfl, hM, hb⟩
    obtain ⟨l, f, rfl, hl, hf⟩ := kV_openM hM
    obtain ⟨Al, cl, rfl⟩ := Kd.R_slice hl
    obtain ⟨Af, cf, rfl⟩ := Kd.R_slice hf
    exact ⟨Al, cl, Af, cf, rfl, hM, hb⟩
  have cR := fun (W : World) (cs : List Value) (hK : kV.K W x cs) (hb : Below w0.heap.size w0 W) => print_any x W cs hK (hP.facts.below hb) (by omega) hpin
  have cT : ∀ W, RB w0 r bs false W → Calls Tryz.prog 51 #[.pointer (some ⟨r, 0, none⟩)] W fun e w' => TxtGives w0 r W (some (s, rest)) e w' := fun W hW => by rw [← ht]; exact rtext_any hW
  unfold TxtGives at cT
  rw [he] at cR
  clear hpw hsz hok ht hs
  replace hpwt := Aside0.mk hpwt
  replace hpin := Aside0.mk hpin
  have hrl : r < w.heap.size := by obtain ⟨A, c, h1, _⟩ := h.blk; exact blk_lt h1
  have hb0 := (Below.refl w.heap.size w).alloc (Nat.le_refl _) (.cells #[.bool false, .int .i64 0, .bool false, .bool false, .string ⟨#[]⟩, .int .i64 0, .string ⟨#[]⟩, .slice none 0 0, .slice none 0 0, .string ⟨#[]⟩, .string ⟨#[]⟩] 46)
  have hbx := heap_alloc_new w (.cells #[.bool false, .int .i64 0, .bool false, .bool false, .string ⟨#[]⟩, .int .i64 0, .string ⟨#[]⟩, .slice none 0 0, .slice none 0 0, .string ⟨#[]⟩, .string ⟨#[]⟩] 46)
  have hRB0 := h.below hb0
  have hr0 := Read.of_below (r := r) hb0
  have hw0 : w0.heap.size ≤ w.heap.size := h.low.size
  have cC : Calls Tryz.prog 50 #[.pointer (some ⟨r, 0, none⟩), .int .i64 1] (w.alloc (.cells #[.bool false, .int .i64 0, .bool false, .bool false, .string ⟨#[]⟩, .int .i64 0, .string ⟨#[]⟩, .slice none 0 0, .slice none 0 0, .string ⟨#[]⟩, .string ⟨#[]⟩] 46)) fun e w' => ∃ ad, e = .returned (.slice (some ad) 1 1) ∧ w'.cell? ad = some (.int .u8 c.toNat) ∧ ad.block < w0.heap.size ∧ RB w0 r bs false w' ∧ Read r (w.alloc (.cells #[.bool false, .int .i64 0, .bool false, .bool false, .string ⟨#[]⟩, .int .i64 0, .string ⟨#[]⟩, .slice none 0 0, .slice none 0 0, .string ⟨#[]⟩, .string ⟨#[]⟩] 46)) w' := by
    refine (cut_ok hRB0 1 (by simp)).mono ?_
    rintro e w' ⟨A, rfl, hR, h1, h2⟩
    obtain ⟨ad, e, hc⟩ := hR.2.2 (by omega)
    subst e
    have h0 := hc 0 (by omega)
    have ha : ad.add 0 = ad := by simp [Addr.add]
    rw [ha] at h0
    exact ⟨ad, rfl, pw_cell_below h1.low h0, World.block_lt_of_cell? _ _ h0, h1, h2⟩
  replace hbx := Aside0.mk hbx
  replace hr0 := Aside0.mk hr0
  clear hRB0 h hb0
  rw [hc0] at cC
  clear hc0
  have hne : w.heap.size ≠ r := by omega
  go_enter Tryz.func54, Tryz.ntmps54
  go_wp2_with (first
    | (go_at_call 29; refine (cR _ _ hK4.out h4.out.low).mono ?_; rintro e w5 ⟨rfl, hb5⟩; have h5 := h4.out.below hb5; have hc5 := h5.cells.1; have hf5 := h5.cells.2; have hrd5 := hrd4.out.trans (Read.of_below hb5); have hbx5 := (hb5.block _ (blk_lt hbx4.out)).trans hbx4.out; have hcB := cellAll hbx5; have hfB := frozenAll hbx5; have hbv5 := (hb5.block _ (blk_lt hbv.out)).trans hbv.out; have hcv := cellAll hbv5; obtain ⟨h6, hr6⟩ := h5.set_w hrd5 false; have hM6 := Aside0.mk (M_only (kV.M_below hM4.out hb5) ((Read.refl r w5).set_ 1 (.bool false)) (by have := hbs.out; omega)); replace h6 := Aside0.mk h6; replace hr6 := Aside0.mk hr6; clear h5 hrd5 hbx5 hbv5 hb5)
    | (go_at_call 27; refine (cP w2 h2.low).mono ?_; rintro e w3 ⟨Al, cl, Af, cf, rfl, hM3, hb3⟩; have hb4 := (Below.refl w3.heap.size w3).alloc (Nat.le_refl _) (.cells #[.int .i64 x.kind, .bool x.truth, .bool x.neg, .string x.digits, .int .i64 x.exp, .string x.text, .slice Al x.list.length cl, .slice Af x.fields.length cf] 27); have hbv := Aside0.mk (heap_alloc_new w3 (.cells #[.int .i64 x.kind, .bool x.truth, .bool x.neg, .string x.digits, .int .i64 x.exp, .string x.text, .slice Al x.list.length cl, .slice Af x.fields.length cf] 27)); have hcv := cellAll hbv.out; have hb34 := hb3.trans (hb4.mono hb3.size); have h4 := Aside0.mk (h2.below hb34); have hc4 := h4.out.cells.1; have hf4 := h4.out.cells.2; have hbx4 := Aside0.mk ((hb34.block _ (blk_lt hbx2.out)).trans hbx2.out); have hcB := cellAll hbx4.out; have hfB := frozenAll hbx4.out; have hrd4 := Aside0.mk (hrd2.out.trans (Read.of_below hb34)); have hM4 := Aside0.mk (kV.M_below hM3 hb4); have hK4 := Aside0.mk (kV.K_of_M hM4.out); have hbs : Aside0 (w.heap.size < w2.heap.size) := ⟨blk_lt hbx2.out⟩; have hnv : w3.heap.size ≠ r := (by have := hbs.out; have := hb3.size; omega); have hnw : w3.heap.size ≠ w.heap.size := (by have := hbs.out; have := hb3.size; omega); clear hb3 hb4 hb34 hM3)
    | (go_at_call 51; refine (cT w1 h1).mono ?_; rintro e w2 ⟨rfl, h2, hr2⟩; have hbx2 := Aside0.mk ((hr2.block w.heap.size (blk_lt hbx1.out) (by intro e; injection e with e; omega)).trans hbx1.out); have hrd2 := Aside0.mk ((hr0.out.trans hr1).trans hr2); clear hcB hfB)
    | (go_at_call 50; refine cC.mono ?_; rintro e w1 ⟨ad, rfl, hca, hadb, h1, hr1⟩; have hc1 := h1.cells.1; have hf1 := h1.cells.2; have hbx1 := Aside0.mk ((hr1.block w.heap.size (blk_lt hbx.out) (by intro e; injection e with e; omega)).trans hbx.out); have hcB := cellAll hbx1.out; have hfB := frozenAll hbx1.out))
  all_goals exact bodyPost_ret (v := .agg #[.bool true, .int .i64 x.kind, .bool x.truth, .bool x.neg, .string x.digits, .int .i64 x.exp, .string x.text, .slice Al x.list.length cl, .slice Af x.fields.length cf, .string ⟨#[]⟩, .string ⟨#[]⟩]) (by simp [results, Tryz.results54, go_sem, hcB]) rfl (out_end ⟨true, x, [], []⟩ [.int .i64 x.kind, .bool x.truth, .bool x.neg, .string x.digits, .int .i64 x.exp, .string x.text, .slice Al x.list.length cl, .slice Af x.fields.length cf] rfl h6.out hr6.out hrl hw0 (by (iterate 11 refine Read.set_ ?_ _ _); exact Read.refl _ _) (kV.M_lower (Nat.le_of_lt hbs.out) (M_only hM6.out (by (iterate 11 refine Read.set_ ?_ _ _); exact Read.refl _ _) hbs.out)) (fun h => ⟨rfl, h⟩))
set_option maxRecDepth 100000 in
set_option maxHeartbeats 16000000 in
theorem rout_other {w0 : World} {r : Nat} {c : UInt8} {bs s rest : List UInt8} {w : World} (E : ErrV) (h : RB w0 r (c :: bs) false w) (hc0 : c.toNat = 1) (hP : PEnv E w0) (ht : textD bs = some (s, rest)) (hs : s.length ≤ 1048576) {x : JV} {j : Nat} (hok : parseTo ⟨s.toArray⟩ = .ok x j) (he : x.print ≠ s) :
    Calls Tryz.prog 54 #[.pointer (some ⟨r, 0, none⟩)] w fun e w' => OutGives w0 r w (none) e w' := by
  have hsz := size_of_l s
  have hpw := parse_wt (by omega) hok
  have hpwt := hpw.1
  have hpin := hpw.2
  have cP : ∀ (W : World), Below w0.heap.size w0 W → Calls Tryz.prog 27 #[.string ⟨s.toArray⟩] W fun e w' => ∃ Al cl Af cf, e = .returned (.tuple #[.agg #[.int .i64 x.kind, .bool x.truth, .bool x.neg, .string x.digits, .int .i64 x.exp, .string x.text, .slice Al x.list.length cl, .slice Af x.fields.length cf], .nilIface]) ∧ kV.M w' W.heap.size (fun _ => True) x [.int .i64 x.kind, .bool x.truth, .bool x.neg, .string x.digits, .int .i64 x.exp, .string x.text, .slice Al x.list.length cl, .slice Af x.fields.length cf] ∧ Below W.heap.size W w' := by
    intro W hb
    have h2 := parse_any E ⟨s.toArray⟩ W (by omega) (hP.below hb)
    rw [hok] at h2
    refine h2.mono ?_
    rintro e w' ⟨cs', rfl, hM, hb⟩
    obtain ⟨l, f, rfl, hl, hf⟩ := kV_openM hM
    obtain ⟨Al, cl, rfl⟩ := Kd.R_slice hl
    obtain ⟨Af, cf, rfl⟩ := Kd.R_slice hf
    exact ⟨Al, cl, Af, cf, rfl, hM, hb⟩
  have cR := fun (W : World) (cs : List Value) (hK : kV.K W x cs) (hb : Below w0.heap.size w0 W) => print_any x W cs hK (hP.facts.below hb) (by omega) hpin
  have cT : ∀ W, RB w0 r bs false W → Calls Tryz.prog 51 #[.pointer (some ⟨r, 0, none⟩)] W fun e w' => TxtGives w0 r W (some (s, rest)) e w' := fun W hW => by rw [← ht]; exact rtext_any hW
  unfold TxtGives at cT
  have hbe : (⟨x.print.toArray⟩ : ByteArray) ≠ ⟨s.toArray⟩ := fun e => he (by injection e with e; exact Array.toList_inj.2 e |> fun h => by simpa using h)
  have b1 := bytes_bne hbe
  have b2 := bytes_tne hbe
  have b3 := bytes_beq_no hbe
  have b4 : ((⟨x.print.toArray⟩ : ByteArray).toList == s) = false := by rw [toList_eq]; simpa using he
  generalize (⟨x.print.toArray⟩ : ByteArray) = pr at *
  clear hbe
  clear hpw hsz hok ht hs
  replace hpwt := Aside0.mk hpwt
  replace hpin := Aside0.mk hpin
  have hrl : r < w.heap.size := by obtain ⟨A, c, h1, _⟩ := h.blk; exact blk_lt h1
  have hb0 := (Below.refl w.heap.size w).alloc (Nat.le_refl _) (.cells #[.bool false, .int .i64 0, .bool false, .bool false, .string ⟨#[]⟩, .int .i64 0, .string ⟨#[]⟩, .slice none 0 0, .slice none 0 0, .string ⟨#[]⟩, .string ⟨#[]⟩] 46)
  have hbx := heap_alloc_new w (.cells #[.bool false, .int .i64 0, .bool false, .bool false, .string ⟨#[]⟩, .int .i64 0, .string ⟨#[]⟩, .slice none 0 0, .slice none 0 0, .string ⟨#[]⟩, .string ⟨#[]⟩] 46)
  have hRB0 := h.below hb0
  have hr0 := Read.of_below (r := r) hb0
  have hw0 : w0.heap.size ≤ w.heap.size := h.low.size
  have cC : Calls Tryz.prog 50 #[.pointer (some ⟨r, 0, none⟩), .int .i64 1] (w.alloc (.cells #[.bool false, .int .i64 0, .bool false, .bool false, .string ⟨#[]⟩, .int .i64 0, .string ⟨#[]⟩, .slice none 0 0, .slice none 0 0, .string ⟨#[]⟩, .string ⟨#[]⟩] 46)) fun e w' => ∃ ad, e = .returned (.slice (some ad) 1 1) ∧ w'.cell? ad = some (.int .u8 c.toNat) ∧ ad.block < w0.heap.size ∧ RB w0 r bs false w' ∧ Read r (w.alloc (.cells #[.bool false, .int .i64 0, .bool false, .bool false, .string ⟨#[]⟩, .int .i64 0, .string ⟨#[]⟩, .slice none 0 0, .slice none 0 0, .string ⟨#[]⟩, .string ⟨#[]⟩] 46)) w' := by
    refine (cut_ok hRB0 1 (by simp)).mono ?_
    rintro e w' ⟨A, rfl, hR, h1, h2⟩
    obtain ⟨ad, e, hc⟩ := hR.2.2 (by omega)
    subst e
    have h0 := hc 0 (by omega)
    have ha : ad.add 0 = ad := by simp [Addr.add]
    rw [ha] at h0
    exact ⟨ad, rfl, pw_cell_below h1.low h0, World.block_lt_of_cell? _ _ h0, h1, h2⟩
  replace hbx := Aside0.mk hbx
  replace hr0 := Aside0.mk hr0
  clear hRB0 h hb0
  rw [hc0] at cC
  clear hc0
  have hne : w.heap.size ≠ r := by omega
  go_enter Tryz.func54, Tryz.ntmps54
  go_wp2_with (first
    | (go_at_call 29; refine (cR _ _ hK4.out h4.out.low).mono ?_; rintro e w5 ⟨rfl, hb5⟩; have h5 := h4.out.below hb5; have hc5 := h5.cells.1; have hf5 := h5.cells.2; have hrd5 := hrd4.out.trans (Read.of_below hb5); have hbx5 := (hb5.block _ (blk_lt hbx4.out)).trans hbx4.out; have hcB := cellAll hbx5; have hfB := frozenAll hbx5; have hbv5 := (hb5.block _ (blk_lt hbv.out)).trans hbv.out; have hcv := cellAll hbv5; obtain ⟨h6, hr6⟩ := h5.set_w hrd5 true; have hM6 := Aside0.mk (M_only (kV.M_below hM4.out hb5) ((Read.refl r w5).set_ 1 (.bool true)) (by have := hbs.out; omega)); replace h6 := Aside0.mk h6; replace hr6 := Aside0.mk hr6; clear h5 hrd5 hbx5 hbv5 hb5)
    | (go_at_call 27; refine (cP w2 h2.low).mono ?_; rintro e w3 ⟨Al, cl, Af, cf, rfl, hM3, hb3⟩; have hb4 := (Below.refl w3.heap.size w3).alloc (Nat.le_refl _) (.cells #[.int .i64 x.kind, .bool x.truth, .bool x.neg, .string x.digits, .int .i64 x.exp, .string x.text, .slice Al x.list.length cl, .slice Af x.fields.length cf] 27); have hbv := Aside0.mk (heap_alloc_new w3 (.cells #[.int .i64 x.kind, .bool x.truth, .bool x.neg, .string x.digits, .int .i64 x.exp, .string x.text, .slice Al x.list.length cl, .slice Af x.fields.length cf] 27)); have hcv := cellAll hbv.out; have hb34 := hb3.trans (hb4.mono hb3.size); have h4 := Aside0.mk (h2.below hb34); have hc4 := h4.out.cells.1; have hf4 := h4.out.cells.2; have hbx4 := Aside0.mk ((hb34.block _ (blk_lt hbx2.out)).trans hbx2.out); have hcB := cellAll hbx4.out; have hfB := frozenAll hbx4.out; have hrd4 := Aside0.mk (hrd2.out.trans (Read.of_below hb34)); have hM4 := Aside0.mk (kV.M_below hM3 hb4); have hK4 := Aside0.mk (kV.K_of_M hM4.out); have hbs : Aside0 (w.heap.size < w2.heap.size) := ⟨blk_lt hbx2.out⟩; have hnv : w3.heap.size ≠ r := (by have := hbs.out; have := hb3.size; omega); have hnw : w3.heap.size ≠ w.heap.size := (by have := hbs.out; have := hb3.size; omega); clear hb3 hb4 hb34 hM3)
    | (go_at_call 51; refine (cT w1 h1).mono ?_; rintro e w2 ⟨rfl, h2, hr2⟩; have hbx2 := Aside0.mk ((hr2.block w.heap.size (blk_lt hbx1.out) (by intro e; injection e with e; omega)).trans hbx1.out); have hrd2 := Aside0.mk ((hr0.out.trans hr1).trans hr2); clear hcB hfB)
    | (go_at_call 50; refine cC.mono ?_; rintro e w1 ⟨ad, rfl, hca, hadb, h1, hr1⟩; have hc1 := h1.cells.1; have hf1 := h1.cells.2; have hbx1 := Aside0.mk ((hr1.block w.heap.size (blk_lt hbx.out) (by intro e; injection e with e; omega)).trans hbx.out); have hcB := cellAll hbx1.out; have hfB := frozenAll hbx1.out))
  all_goals exact bodyPost_ret (v := .agg #[.bool true, .int .i64 x.kind, .bool x.truth, .bool x.neg, .string x.digits, .int .i64 x.exp, .string x.text, .slice Al x.list.length cl, .slice Af x.fields.length cf, .string ⟨#[]⟩, .string ⟨#[]⟩]) (by simp [results, Tryz.results54, go_sem, hcB]) rfl (out_end ⟨true, x, [], []⟩ [.int .i64 x.kind, .bool x.truth, .bool x.neg, .string x.digits, .int .i64 x.exp, .string x.text, .slice Al x.list.length cl, .slice Af x.fields.length cf] rfl h6.out hr6.out hrl hw0 (by (iterate 11 refine Read.set_ ?_ _ _); exact Read.refl _ _) (kV.M_lower (Nat.le_of_lt hbs.out) (M_only hM6.out (by (iterate 11 refine Read.set_ ?_ _ _); exact Read.refl _ _) hbs.out)) (fun h => ⟨_, h⟩))
theorem prs_none {s : List UInt8} (h : prs s = none) : 1048576 < (⟨s.toArray⟩ : ByteArray).size ∨ ∃ k e, parseTo ⟨s.toArray⟩ = .no k e := by
  rw [size_of_l]
  unfold prs at h
  by_cases hs : s.length ≤ 1048576
  · rw [if_pos hs] at h
    cases hp : parseTo ⟨s.toArray⟩ with
    | no k e => exact .inr ⟨k, e, rfl⟩
    | ok x j => rw [hp] at h; cases h
  · exact .inl (by omega)
theorem prs_some {s : List UInt8} {x : JV} (h : prs s = some x) : s.length ≤ 1048576 ∧ ∃ j, parseTo ⟨s.toArray⟩ = .ok x j := by
  unfold prs at h
  by_cases hs : s.length ≤ 1048576
  · rw [if_pos hs] at h
    cases hp : parseTo ⟨s.toArray⟩ with
    | no k e => rw [hp] at h; cases h
    | ok y j => rw [hp] at h; injection h with h; subst h; exact ⟨hs, j, rfl⟩
  · rw [if_neg hs] at h; cases h
theorem parse_empty : ∃ k e, parseTo ⟨#[]⟩ = .no k e := ⟨0, .due, by kernel_rfl⟩
/-- **record's reader's outcome.** -/
theorem rout_any (E : ErrV) {w0 : World} {r : Nat} {b : List UInt8} {w : World} (h : RB w0 r b false w) (hP : PEnv E w0) :
    Calls Tryz.prog 54 #[.pointer (some ⟨r, 0, none⟩)] w fun e w' => OutGives w0 r w (outD b) e w' := by
  cases b with
  | nil => exact rout_nil h
  | cons c bs =>
    unfold outD
    dsimp only
    by_cases h0 : c.toNat = 0
    · rw [if_pos h0]
      cases h1 : textD bs with
      | none => exact rout_z1 h h0 h1
      | some p =>
        obtain ⟨s1, b1⟩ := p
        dsimp only
        cases h2 : textD b1 with
        | none => exact rout_z2 h h0 h1 h2
        | some q =>
          obtain ⟨s2, b2⟩ := q
          exact rout_z3 h h0 h1 h2
    · rw [if_neg h0]
      by_cases h1 : c.toNat = 1
      · rw [if_pos h1]
        cases h2 : textD bs with
        | none =>
          refine rout_fault E h h1 hP ⟨#[]⟩ true (fun W hW => ?_) (.inr parse_empty)
          have hT := rtext_any hW
          rw [h2] at hT
          exact hT
        | some p =>
          obtain ⟨s, rest⟩ := p
          dsimp only
          cases h3 : prs s with
          | none =>
            refine rout_fault E h h1 hP ⟨s.toArray⟩ false (fun W hW => ?_) (prs_none h3)
            have hT := rtext_any hW
            rw [h2] at hT
            refine hT.mono ?_
            rintro e w' ⟨rfl, h4, h5⟩
            exact ⟨rfl, ⟨_, h4⟩, h5⟩
          | some x =>
            dsimp only
            obtain ⟨hs, j, hok⟩ := prs_some h3
            by_cases he : x.print = s
            · rw [if_pos he]
              exact rout_good E h h1 hP h2 hs hok he
            · rw [if_neg he]
              exact rout_other E h h1 hP h2 hs hok he
      · rw [if_neg h1]
        exact rout_great h (by omega)
end Go.Proofs.YtkdeleafgailhaaGreatDoor
end
section
set_option linter.unusedVariables false
set_option linter.unusedSimpArgs false
namespace Go.Proofs.YtkdeleafgailhaaGreatDoor
open Go Go.RowKit Go.Proofs.YtkdeleafgailhaaGreatDoorW.PrintWords

def zeroA : Array Value := #[.int .i64 0, .slice none 0 0, .int .i64 0, .bool false, .int .i64 0, .bool false, .bool false, .string ⟨#[]⟩, .int .i64 0, .string ⟨#[]⟩, .slice none 0 0, .slice none 0 0, .string ⟨#[]⟩, .string ⟨#[]⟩, .string ⟨#[]⟩, .string ⟨#[]⟩, .int .i64 0]
/-- An event's cells. -/
def evA (d : Evn) (PA : Option Addr) (pc : Nat) (A : Option Addr) (lc : Nat) (B : Option Addr) (ld : Nat) : Array Value := #[.int .i64 d.kind, .slice PA d.place.length pc, .int .i64 d.time, .bool d.out.fine, .int .i64 d.out.value.kind, .bool d.out.value.truth, .bool d.out.value.neg, .string d.out.value.digits, .int .i64 d.out.value.exp, .string d.out.value.text, .slice A d.out.value.list.length lc, .slice B d.out.value.fields.length ld, .string ⟨d.out.err.toArray⟩, .string ⟨d.out.cause.toArray⟩, .string ⟨d.machine.toArray⟩, .string ⟨d.input.toArray⟩, .int .i64 d.fuel]
def valL (x : JV) (A : Option Addr) (lc : Nat) (B : Option Addr) (ld : Nat) : List Value := x.cells (.slice A x.list.length lc) (.slice B x.fields.length ld)
/-- The result's box; the reader; the event's box and, behind it, the string's iterator; the event's rows are of the call's own. -/
structure DecAt (w : World) (s : ByteArray) (be base : Nat) (p : Nat) (d : Evn) (PA : Option Addr) (pc : Nat) (A : Option Addr) (lc : Nat) (B : Option Addr) (ld : Nat) (b : List UInt8) (W : World) : Prop where
  res : W.heap[w.heap.size]? = some (.cells zeroA 48 (0, 0))
  rd : RB w (w.heap.size + 1) b false W
  box : W.heap[be]? = some (.cells (evA d PA pc A lc B ld) 48 (0, 0))
  it : W.heap[be + 1]? = some (.stringIter s p)
  own : W.ownsRow base 3 1 (.slice PA d.place.length pc) d.place.length (nums .i64 d.place)
  val : kV.M W base (fun _ => True) d.out.value (valL d.out.value A lc B ld)
  bel : w.heap.size + 1 < be
  bal : be + 1 < base
  bas : base ≤ W.heap.size
section
variable {w : World} {s : ByteArray} {be base p : Nat} {d : Evn} {PA : Option Addr} {pc : Nat} {A : Option Addr} {lc : Nat} {B : Option Addr} {ld : Nat} {b : List UInt8} {W W' : World}
theorem DecAt.below (h : DecAt w s be base p d PA pc A lc B ld b W) (hb : Below W.heap.size W W') : DecAt w s be base p d PA pc A lc B ld b W' :=
  ⟨(hb.block _ (blk_lt h.res)).trans h.res, h.rd.below hb, (hb.block _ (blk_lt h.box)).trans h.box, (hb.block _ (Array.getElem?_eq_some_iff.1 h.it).1).trans h.it, pw_own_below h.own hb, kV.M_below h.val hb, h.bel, h.bal, Nat.le_trans h.bas hb.size⟩
theorem DecAt.evk (h : DecAt w s be base p d PA pc A lc B ld b W) : EvK W d (evA d PA pc A lc B ld).toList := by
  have hK := kV.K_of_M h.val
  obtain ⟨A1, c1, B1, d1, e1, h2, h3, h4, h5⟩ := kV_open hK
  obtain ⟨A2, c2, e2, hr, hl⟩ : ∃ A2 c2, Value.slice PA d.place.length pc = .slice A2 d.place.length c2 ∧ ReadsInt W .i64 A2 d.place.length d.place ∧ d.place.length ≤ c2 := by
    rcases h.own.2 with ⟨e, hz⟩ | ⟨g, cap, cur, e, _, _, hnc, _⟩
    · injection e with e1 e2 e3
      refine ⟨PA, pc, rfl, ⟨rfl, by omega, fun hp => absurd hp (by omega)⟩, by omega⟩
    · obtain ⟨A9, c9, e9, hR9⟩ := own_reads h.own
      injection e9 with e91 e92 e93
      injection e with e81 e82 e83
      subst e91 e93
      exact ⟨PA, pc, rfl, hR9, by omega⟩
  exact ⟨A2, c2, valL d.out.value A lc B ld, by rw [← e2]; rfl, hr, hl, hK⟩
theorem DecAt.next (h : DecAt w s be base p d PA pc A lc B ld b W) (p' : Nat) : DecAt w s be base p' d PA pc A lc B ld b (W.iterAt (be + 1) s p') := by
  have hne : ∀ k, k ≠ be + 1 → (W.iterAt (be + 1) s p').heap[k]? = W.heap[k]? := fun k hk => Lib.iterAt_other W _ k s p' hk
  have h1 := h.bel
  have h2 := h.bal
  have hsz : (W.iterAt (be + 1) s p').heap.size = W.heap.size := Lib.iterAt_size W _ s p'
  obtain ⟨rA, rc, hb, hR, hc⟩ := h.rd.blk
  refine ⟨(hne _ (by omega)).trans h.res, ⟨⟨rA, rc, (hne _ (by omega)).trans hb, hR, hc⟩, h.rd.le, Lib.below_iterAt h.rd.low (by omega) s p'⟩, (hne _ (by omega)).trans h.box, Lib.iterAt_heap W _ s p p' h.it, own_move h.own (fun k hk => hne k (by have := own_base h.own k hk; omega)), kV.M_mono (fun _ _ => trivial) (kV.M_move (fun k hk => hne k (by have := hk.2.1; omega)) (kV.M_bound h.val)), h.bel, h.bal, by rw [hsz]; exact h.bas⟩
/-- The reader goes on. -/
theorem DecAt.read {b' : List UInt8} (h : DecAt w s be base p d PA pc A lc B ld b W) (hr : Read (w.heap.size + 1) W W') (hR : RB w (w.heap.size + 1) b' false W') : DecAt w s be base p d PA pc A lc B ld b' W' := by
  have h1 := h.bel
  have h2 := h.bal
  have hne : ∀ k, k ≠ w.heap.size + 1 → k < W.heap.size → W'.heap[k]? = W.heap[k]? := fun k hk hl => hr.block k hl (fun e => by injection e with e; exact hk e)
  exact ⟨(hne _ (by omega) (blk_lt h.res)).trans h.res, hR, (hne _ (by omega) (blk_lt h.box)).trans h.box, (hne _ (by omega) (Array.getElem?_eq_some_iff.1 h.it).1).trans h.it, own_read h.own hr (by omega), M_only h.val hr (by omega), h.bel, h.bal, Nat.le_trans h.bas hr.size⟩
/-- A part is put into the event. -/
theorem DecAt.put {d' : Evn} {PA' : Option Addr} {pc' : Nat} {A' : Option Addr} {lc' : Nat} {B' : Option Addr} {ld' : Nat} (h : DecAt w s be base p d PA pc A lc B ld b W) (hch : Read be W W') (hbx : W'.heap[be]? = some (.cells (evA d' PA' pc' A' lc' B' ld') 48 (0, 0))) (ho : W.ownsRow base 3 1 (.slice PA' d'.place.length pc') d'.place.length (nums .i64 d'.place)) (hv : kV.M W base (fun _ => True) d'.out.value (valL d'.out.value A' lc' B' ld')) : DecAt w s be base p d' PA' pc' A' lc' B' ld' b W' := by
  have h1 := h.bel
  have h2 := h.bal
  have hne : ∀ k, k ≠ be → k < W.heap.size → W'.heap[k]? = W.heap[k]? := fun k hk hl => hch.block k hl (fun e => by injection e with e; exact hk e)
  exact ⟨(hne _ (by omega) (blk_lt h.res)).trans h.res, h.rd.only hch (by omega) (by omega), hbx, (hne _ (by omega) (Array.getElem?_eq_some_iff.1 h.it).1).trans h.it, own_read ho hch (by omega), M_only hv hch (by omega), h.bel, h.bal, Nat.le_trans h.bas hch.size⟩
theorem DecAt.low (h : DecAt w s be base p d PA pc A lc B ld b W) : Below w.heap.size w W := h.rd.low
end
open Classical in
theorem decP_cons (c : EvPart) (cs : List EvPart) (d : Evn) (b : List UInt8) : decP (c :: cs) d b = match readP c d b with
    | none => none
    | some (d', b') => if mayP c d' then decP cs d' b' else none := by rw [decP]; rfl
theorem dec_none {ps : List EvPart} {j : Nat} {c : EvPart} {d : Evn} {b : List UInt8} {fin : Option (Evn × List UInt8)} (hc : ps[j]? = some c) (h : decP (ps.drop j) d b = fin) (hr : readP c d b = none) : fin = none := by
  obtain ⟨h1, h2⟩ := List.getElem?_eq_some_iff.1 hc
  rw [List.drop_eq_getElem_cons h1, h2, decP_cons, hr] at h
  exact h.symm
theorem dec_no {ps : List EvPart} {j : Nat} {c : EvPart} {d d' : Evn} {b b' : List UInt8} {fin : Option (Evn × List UInt8)} (hc : ps[j]? = some c) (h : decP (ps.drop j) d b = fin) (hr : readP c d b = some (d', b')) (hm : ¬ mayP c d') : fin = none := by
  obtain ⟨h1, h2⟩ := List.getElem?_eq_some_iff.1 hc
  rw [List.drop_eq_getElem_cons h1, h2, decP_cons, hr] at h
  dsimp only at h
  rw [if_neg hm] at h
  exact h.symm
theorem dec_go {ps : List EvPart} {j : Nat} {c : EvPart} {d d' : Evn} {b b' : List UInt8} {fin : Option (Evn × List UInt8)} (hc : ps[j]? = some c) (h : decP (ps.drop j) d b = fin) (hr : readP c d b = some (d', b')) (hm : mayP c d') : decP (ps.drop (j + 1)) d' b' = fin := by
  obtain ⟨h1, h2⟩ := List.getElem?_eq_some_iff.1 hc
  rw [List.drop_eq_getElem_cons h1, h2, decP_cons, hr] at h
  dsimp only at h
  rw [if_pos hm] at h
  exact h
set_option maxRecDepth 100000 in
set_option maxHeartbeats 4000000 in
/-- Decode's end: what its results' box holds. -/
theorem dec_ret {Q : Ending → World → Prop} {ts : Array Value} {W : World} {B : Nat} {cs : Array Value} {x : Value} (h2 : ts[2]? = some (.pointer (some ⟨B, 0, none⟩))) (h3 : ts[3]? = some x) (hb : W.heap[B]? = some (.cells cs 48 (0, 0))) (hcs : cs.size = 17) (hq : Q (.returned (.tuple #[.agg cs, x])) W) : bodyPost Tryz.prog Tryz.f24 Q .ret { tmps := ts, defers := [] } W := by
  have hl := run_loadVar_row (P := Tryz.prog) W B 48 48 cs (0, 0) _ hb Tryz.underlying48 rfl (by rw [hcs]; kernel_rfl)
  refine bodyPost_ret (v := .tuple #[.agg cs, x]) ?_ rfl hq
  simp [results, Tryz.results24, h2, h3, asAddr, hl, Result.andThen, Sem.run_bind]
theorem low_row {B g : Nat} {a W : World} {cs : Array Value} (h : Below B a W) (hg : B ≤ g) : Below B a (W.setRow g cs) :=
  h.trans ⟨rfl, rfl, rfl, by simp [World.setRow], fun k hk => setRow_other W g k cs (by omega)⟩
theorem zero_one : zeroA.all (·.oneCell') = true := by simp [zeroA, Value.oneCell']
theorem evA_one (d : Evn) (PA : Option Addr) (pc : Nat) (A : Option Addr) (lc : Nat) (B : Option Addr) (ld : Nat) : (evA d PA pc A lc B ld).all (·.oneCell') = true := by simp [evA, Value.oneCell']
def kindA (k : Int) : Array Value := #[.int .i64 k, .slice none 0 0, .int .i64 0, .bool false, .int .i64 0, .bool false, .bool false, .string ⟨#[]⟩, .int .i64 0, .string ⟨#[]⟩, .slice none 0 0, .slice none 0 0, .string ⟨#[]⟩, .string ⟨#[]⟩, .string ⟨#[]⟩, .string ⟨#[]⟩, .int .i64 0]
theorem kind_one (k : Int) : (kindA k).all (·.oneCell') = true := by simp [kindA, Value.oneCell']
theorem built1 (k : Int) : Tryz.prog.built 48 [(0, .int .i64 k)] = some (kindA k) := by kernel_rfl
theorem size_ev {n : Nat} (h : n = 17) : (Tryz.prog.info? 48).map (·.size) = some n := by subst h; kernel_rfl
section
variable {o : Oper} {a : Act} {Q : Exit → Act → World → Prop} {K : Act → World → Prop} {w : World}
theorem op_build1 (x : Operand) (k : Int) (ho : o.op = .build 48 #[(0, x)]) (hx : a.eval x = .int .i64 k) (h : K (a.put o.dst (.agg (kindA k))) w) : o.wp Tryz.prog a w K Q := by
  have e : ((#[(0, x)] : Array (Nat × Operand)).map fun (i, x) => (i, a.eval x)).toList = [(0, .int .i64 k)] := by simp [hx]
  refine wp_build 48 #[(0, x)] ho ?_ ?_
  · rw [e, built1]; rfl
  · rw [e, built1]; exact h
theorem op_store {cs old : Array Value} {B : Nat} (x y : Operand) (ho : o.op = .store 48 x y) (hx : a.eval x = .pointer (some ⟨B, 0, none⟩)) (hy : a.eval y = .agg cs) (hb : w.heap[B]? = some (.cells old 48 (0, 0))) (hold : old.size = 17) (hcs : cs.size = 17) (h1 : cs.all (·.oneCell') = true) (h : K (a.put o.dst undef) (w.setRow B cs)) : o.wp Tryz.prog a w K Q :=
  wp_store_row 48 x y ho B cs hx hy 48 old hb (size_ev hcs) (hold.trans hcs.symm) h1 h
theorem op_load {cs : Array Value} {B : Nat} (x : Operand) (ho : o.op = .load 48 x) (hx : a.eval x = .pointer (some ⟨B, 0, none⟩)) (hb : w.heap[B]? = some (.cells cs 48 (0, 0))) (hcs : cs.size = 17) (h : K (a.put o.dst (.agg cs)) w) : o.wp Tryz.prog a w K Q :=
  wp_load_row 48 x ho B hx 48 cs (0, 0) _ hb Tryz.underlying48 rfl (size_ev hcs) h
end
section
variable {ops : Array Oper} {rest : List Oper} {o : Oper} {a : Act} {Q : Exit → Act → World → Prop} {w : World}
theorem list_build1 (x : Operand) (k : Int) (hgd : o.guard = none) (ho : o.op = .build 48 #[(0, x)]) (hx : a.eval x = .int .i64 k) (h : wpList Tryz.prog ops Q rest (a.put o.dst (.agg (kindA k))) w) : wpList Tryz.prog ops Q (o :: rest) a w := wpList_plain hgd fun _ hK => op_build1 x k ho hx (hK _ _ h)
theorem list_store {cs old : Array Value} {B : Nat} (x y : Operand) (hgd : o.guard = none) (ho : o.op = .store 48 x y) (hx : a.eval x = .pointer (some ⟨B, 0, none⟩)) (hy : a.eval y = .agg cs) (hb : w.heap[B]? = some (.cells old 48 (0, 0))) (hold : old.size = 17) (hcs : cs.size = 17) (h1 : cs.all (·.oneCell') = true) (h : wpList Tryz.prog ops Q rest (a.put o.dst undef) (w.setRow B cs)) : wpList Tryz.prog ops Q (o :: rest) a w := wpList_plain hgd fun _ hK => op_store x y ho hx hy hb hold hcs h1 (hK _ _ h)
theorem list_load {cs : Array Value} {B : Nat} (x : Operand) (hgd : o.guard = none) (ho : o.op = .load 48 x) (hx : a.eval x = .pointer (some ⟨B, 0, none⟩)) (hb : w.heap[B]? = some (.cells cs 48 (0, 0))) (hcs : cs.size = 17) (h : wpList Tryz.prog ops Q rest (a.put o.dst (.agg cs)) w) : wpList Tryz.prog ops Q (o :: rest) a w := wpList_plain hgd fun _ hK => op_load x ho hx hb hcs (hK _ _ h)
end
theorem drew_blk {W : World} {B : Nat} {o : Obj} (h : W.heap[B]? = some o) : W.drew.heap[B]? = some o := h
theorem textD_len {b r s : List UInt8} (h : textD b = some (s, r)) : s.length ≤ b.length ∧ r.length ≤ b.length := by
  have := textD_inv h
  unfold textE at this
  rw [this]
  simp only [List.length_append]
  omega
theorem readP_len (c : EvPart) {d d' : Evn} {b r : List UInt8} (h : readP c d b = some (d', r)) : r.length ≤ b.length := by
  rw [read_inv c h, List.length_append]; omega
theorem outD_ok {b r : List UInt8} {o : Outc} (h : outD b = some (o, r)) (hb : b.length ≤ 140737488355328) : o.value.wt ≤ 1073741824 ∧ o.value.ints ∧ o.err.length ≤ 140737488355328 ∧ o.cause.length ≤ 140737488355328 := by
  cases b with
  | nil => cases h
  | cons c b =>
    rw [List.length_cons] at hb
    unfold outD at h
    dsimp only at h
    by_cases h0 : c.toNat = 0
    · rw [if_pos h0] at h
      cases h1 : textD b with
      | none => rw [h1] at h; cases h
      | some p =>
        obtain ⟨e, b2⟩ := p
        rw [h1] at h
        dsimp only at h
        cases h2 : textD b2 with
        | none => rw [h2] at h; cases h
        | some p2 =>
          obtain ⟨c2, b3⟩ := p2
          rw [h2] at h
          dsimp only at h
          injection h with h
          injection h with e1 e2
          subst e1
          have l1 := textD_len h1
          have l2 := textD_len h2
          exact ⟨by show JV.nul.wt ≤ _; decide +kernel, by show JV.nul.ints; unfold JV.nul; rw [JV.ints, JV.intsL, JV.intsF]; decide, by show e.length ≤ _; omega, by show c2.length ≤ _; omega⟩
    · rw [if_neg h0] at h
      by_cases h9 : c.toNat = 1
      · rw [if_pos h9] at h
        cases h1 : textD b with
        | none => rw [h1] at h; cases h
        | some p =>
          obtain ⟨s, b2⟩ := p
          rw [h1] at h
          dsimp only at h
          cases h2 : prs s with
          | none => rw [h2] at h; cases h
          | some v =>
            rw [h2] at h
            dsimp only at h
            by_cases hv : v.print = s
            · rw [if_pos hv] at h
              injection h with h
              injection h with e1 e2
              subst e1
              obtain ⟨hs, j, hok⟩ := prs_some h2
              have := parse_wt (by rw [size_of_l]; exact hs) hok
              exact ⟨by show v.wt ≤ _; omega, this.2, by simp, by simp⟩
            · rw [if_neg hv] at h; cases h
      · rw [if_neg h9] at h; cases h
theorem readP_ok (c : EvPart) {d d' : Evn} {b r : List UInt8} (h : readP c d b = some (d', r)) (hb : b.length ≤ 140737488355328) (hd : EvOK d) : EvOK d' := by
  cases c
  all_goals
    unfold readP at h
    dsimp only at h
    obtain ⟨x, hx, hx2⟩ := Option.map_eq_some_iff.1 h
    injection hx2 with h1 h2
    subst h1
  case o =>
    obtain ⟨a1, a2, a3, a4⟩ := outD_ok (o := x.1) (r := x.2) hx hb
    exact ⟨a1, a2, a3, a4⟩
  all_goals exact ⟨hd.wt, hd.ints, hd.err, hd.cause⟩
theorem zero_ok (k : Int) : EvOK (zeroE k) := ⟨by show JV.nul.wt ≤ _; decide +kernel, by show JV.nul.ints; unfold JV.nul; rw [JV.ints, JV.intsL, JV.intsF]; decide, by simp [zeroE], by simp [zeroE]⟩
theorem own_lower {W : World} {b b' : Nat} {e : TypeId} {size n : Nat} {v : Value} {xs : List Value} (h : W.ownsRow b e size v n xs) (hb : b' ≤ b) : W.ownsRow b' e size v n xs := by
  refine ⟨h.1, ?_⟩
  rcases h.2 with h2 | ⟨g, cap, cur, h3, h4, h5⟩
  · exact .inl h2
  · exact .inr ⟨g, cap, cur, h3, Nat.le_trans hb h4, h5⟩
/-- Behind a part: read, or wrong. -/
def DecMid (w : World) (s : ByteArray) (be base p : Nat) (c : EvPart) (d : Evn) (b : List UInt8) (W : World) : Prop :=
  (readP c d b = none ∧ W.heap[w.heap.size]? = some (.cells zeroA 48 (0, 0)) ∧ ∃ b', RB w (w.heap.size + 1) b' true W) ∨ ∃ (d' : Evn) (PA : Option Addr) (pc : Nat) (A : Option Addr) (lc : Nat) (B : Option Addr) (ld : Nat) (b' : List UInt8), readP c d b = some (d', b') ∧ DecAt w s be base p d' PA pc A lc B ld b' W
theorem mid_no {w : World} {s : ByteArray} {be base p : Nat} {c : EvPart} {d : Evn} {PA : Option Addr} {pc : Nat} {A : Option Addr} {lc : Nat} {B : Option Addr} {ld : Nat} {b b0 b' : List UInt8} {W2 W W' : World} (h2 : DecAt w s be base p d PA pc A lc B ld b0 W2) (hr : Read (w.heap.size + 1) W2 W) (hRB : RB w (w.heap.size + 1) b' true W) (hch : Read be W W') (hn : readP c d b = none) : DecMid w s be base p c d b W' := by
  have h1 := h2.bel
  have hres := (hr.block _ (blk_lt h2.res) (fun e => by injection e with e; omega)).trans h2.res
  exact .inl ⟨hn, (hch.block _ (blk_lt hres) (fun e => by injection e with e; omega)).trans hres, b', hRB.only hch (by omega) (by omega)⟩
/-- What Decode gives. -/
def DecGives (a : Addr) (w : World) (res : Option Evn) (en : Ending) (w' : World) : Prop :=
  (∃ d cs, res = some d ∧ en = .returned (.tuple #[.agg cs, .nilIface]) ∧ EvK w' d cs.toList ∧ EvOK d ∧ Below w.heap.size w w') ∨ (res = none ∧ en = .returned (.tuple #[.agg zeroA, ev a]) ∧ Below w.heap.size w w')
end Go.Proofs.YtkdeleafgailhaaGreatDoor
end
