/- record.Decode. record.Decode: the regions that hand back the fault. record.Decode of a kind that there is. -/
import Derived.Test.YtkdeleafgailhaaGreatDoorH29
import Derived.Deep.RegionHeld3
import Derived.Deep.Cut
import Derived.Deep.CutBlock
import Derived.Deep.CutRange
section
set_option linter.unusedVariables false
set_option linter.unusedSimpArgs false
namespace Go.Proofs.YtkdeleafgailhaaGreatDoor
open Go Go.RowKit Go.Proofs.YtkdeleafgailhaaGreatDoorW.PrintWords

def decFin : Option (Evn × List UInt8) → Option Evn
  | some (e, []) => some e
  | _ => none
theorem dec_eq {k : UInt8} {b : List UInt8} (h : partsOf (k.toNat : Int) ≠ []) : dec (k :: b) = decFin (decP (partsOf (k.toNat : Int)) (zeroE (k.toNat : Int)) b) := by
  unfold dec decFin
  dsimp only
  rw [if_neg h]
  rfl
set_option maxRecDepth 100000 in
set_option maxHeartbeats 32000000 in
/-- No byte. -/
theorem decode_nil (E : ErrV) (a : Addr) (bs : List UInt8) (A0 : Option Addr) (c0 : Nat) (w : World) (hR : ReadsInt w .u8 A0 bs.length (bint bs)) (hc : bs.length ≤ c0) (hP : REnv E a w) (hbs : bs = []) :
    Calls Tryz.prog 24 #[.slice A0 bs.length c0] w fun en w' => DecGives a w none en w' := by
  have hb0 := (Below.refl w.heap.size w).alloc (Nat.le_refl _) (.cells #[.int .i64 0, .slice none 0 0, .int .i64 0, .bool false, .int .i64 0, .bool false, .bool false, .string ⟨#[]⟩, .int .i64 0, .string ⟨#[]⟩, .slice none 0 0, .slice none 0 0, .string ⟨#[]⟩, .string ⟨#[]⟩, .string ⟨#[]⟩, .string ⟨#[]⟩, .int .i64 0] 48)
  have hb1 := hb0.alloc (by simp) (.cells #[.slice A0 bs.length c0, .bool false] 83)
  obtain ⟨hres, hrb⟩ := boxes w (.cells #[.int .i64 0, .slice none 0 0, .int .i64 0, .bool false, .int .i64 0, .bool false, .bool false, .string ⟨#[]⟩, .int .i64 0, .string ⟨#[]⟩, .slice none 0 0, .slice none 0 0, .string ⟨#[]⟩, .string ⟨#[]⟩, .string ⟨#[]⟩, .string ⟨#[]⟩, .int .i64 0] 48) (.cells #[.slice A0 bs.length c0, .bool false] 83)
  have hRB : RB w (w.heap.size + 1) bs false ((w.alloc (.cells #[.int .i64 0, .slice none 0 0, .int .i64 0, .bool false, .int .i64 0, .bool false, .bool false, .string ⟨#[]⟩, .int .i64 0, .string ⟨#[]⟩, .slice none 0 0, .slice none 0 0, .string ⟨#[]⟩, .string ⟨#[]⟩, .string ⟨#[]⟩, .string ⟨#[]⟩, .int .i64 0] 48)).alloc (.cells #[.slice A0 bs.length c0, .bool false] 83)) := ⟨⟨A0, c0, hrb, hR, hc⟩, by omega, hb1⟩
  have hB00 : w.heap.size ≠ 0 := by have := (var_block (g := 0) (by kernel_rfl) hP.err).1; omega
  have cC := cut_no hRB 1 (by rw [hbs]; simp)
  replace hres := Aside0.mk hres
  replace hP := Aside0.mk hP
  clear hRB hb0 hb1 hrb hR hc hbs
  go_enter Tryz.func24, Tryz.ntmps24
  go_wp2_with (go_at_call 50; refine cC.mono ?_; rintro en w1 ⟨rfl, h1, hr1⟩; have hc1 := h1.cells.1; have hres1 := (hr1.block w.heap.size (blk_lt hres.out) (by intro e; injection e with e; omega)).trans hres.out; have hcB := cellAll hres1; have hfB := frozenAll hres1; have hev := (hP.out.below h1.low).cell; have hlow := Aside0.mk h1.low; replace hres1 := Aside0.mk hres1; clear cC h1 hr1)
  go_region_with (fail)
  all_goals (go_wp2_with fail)
  all_goals refine dec_ret (cs := zeroA) (B := w.heap.size) (x := ev a) (by rfl) (by rfl) (by with_reducible (first | exact blk_set (blk_set (blk_set (blk_set (blk_set (blk_set (blk_set (blk_set (blk_set (blk_set (blk_set (blk_set (blk_set (blk_set (blk_set (blk_set (blk_set (hres1.out) 0 _) 1 _) 2 _) 3 _) 4 _) 5 _) 6 _) 7 _) 8 _) 9 _) 10 _) 11 _) 12 _) 13 _) 14 _) 15 _) 16 _ | exact drew_blk (blk_set (blk_set (blk_set (blk_set (blk_set (blk_set (blk_set (blk_set (blk_set (blk_set (blk_set (blk_set (blk_set (blk_set (blk_set (blk_set (blk_set (hres1.out) 0 _) 1 _) 2 _) 3 _) 4 _) 5 _) 6 _) 7 _) 8 _) 9 _) 10 _) 11 _) 12 _) 13 _) 14 _) 15 _) 16 _) | exact blk_set (blk_set (blk_set (blk_set (blk_set (blk_set (blk_set (blk_set (blk_set (blk_set (blk_set (blk_set (blk_set (blk_set (blk_set (blk_set (blk_set (drew_blk hres1.out) 0 _) 1 _) 2 _) 3 _) 4 _) 5 _) 6 _) 7 _) 8 _) 9 _) 10 _) 11 _) 12 _) 13 _) 14 _) 15 _) 16 _)) rfl (.inr ⟨rfl, rfl, (by with_reducible (first | ((iterate 17 refine below_set ?_ (Nat.le_refl _)); exact hlow.out) | (refine below_drew ?_; (iterate 17 refine below_set ?_ (Nat.le_refl _)); exact hlow.out) | ((iterate 17 refine below_set ?_ (Nat.le_refl _)); exact below_drew hlow.out)))⟩)
set_option maxRecDepth 100000 in
set_option maxHeartbeats 32000000 in
/-- A kind that there is not. -/
theorem decode_bad (E : ErrV) (a : Addr) (bs : List UInt8) (A0 : Option Addr) (c0 : Nat) (w : World) (hR : ReadsInt w .u8 A0 bs.length (bint bs)) (hc : bs.length ≤ c0) (hP : REnv E a w) (k : UInt8) (b : List UInt8) (hbs : bs = k :: b) (hk : ¬ (1 ≤ (k.toNat : Int) ∧ (k.toNat : Int) ≤ 7)) :
    Calls Tryz.prog 24 #[.slice A0 bs.length c0] w fun en w' => DecGives a w none en w' := by
  have hb0 := (Below.refl w.heap.size w).alloc (Nat.le_refl _) (.cells #[.int .i64 0, .slice none 0 0, .int .i64 0, .bool false, .int .i64 0, .bool false, .bool false, .string ⟨#[]⟩, .int .i64 0, .string ⟨#[]⟩, .slice none 0 0, .slice none 0 0, .string ⟨#[]⟩, .string ⟨#[]⟩, .string ⟨#[]⟩, .string ⟨#[]⟩, .int .i64 0] 48)
  have hb1 := hb0.alloc (by simp) (.cells #[.slice A0 bs.length c0, .bool false] 83)
  obtain ⟨hres, hrb⟩ := boxes w (.cells #[.int .i64 0, .slice none 0 0, .int .i64 0, .bool false, .int .i64 0, .bool false, .bool false, .string ⟨#[]⟩, .int .i64 0, .string ⟨#[]⟩, .slice none 0 0, .slice none 0 0, .string ⟨#[]⟩, .string ⟨#[]⟩, .string ⟨#[]⟩, .string ⟨#[]⟩, .int .i64 0] 48) (.cells #[.slice A0 bs.length c0, .bool false] 83)
  have hRB : RB w (w.heap.size + 1) bs false ((w.alloc (.cells #[.int .i64 0, .slice none 0 0, .int .i64 0, .bool false, .int .i64 0, .bool false, .bool false, .string ⟨#[]⟩, .int .i64 0, .string ⟨#[]⟩, .slice none 0 0, .slice none 0 0, .string ⟨#[]⟩, .string ⟨#[]⟩, .string ⟨#[]⟩, .string ⟨#[]⟩, .int .i64 0] 48)).alloc (.cells #[.slice A0 bs.length c0, .bool false] 83)) := ⟨⟨A0, c0, hrb, hR, hc⟩, by omega, hb1⟩
  have hB00 : w.heap.size ≠ 0 := by have := (var_block (g := 0) (by kernel_rfl) hP.err).1; omega
  have cC : Calls Tryz.prog 50 #[.pointer (some ⟨w.heap.size + 1, 0, none⟩), .int .i64 1] ((w.alloc (.cells #[.int .i64 0, .slice none 0 0, .int .i64 0, .bool false, .int .i64 0, .bool false, .bool false, .string ⟨#[]⟩, .int .i64 0, .string ⟨#[]⟩, .slice none 0 0, .slice none 0 0, .string ⟨#[]⟩, .string ⟨#[]⟩, .string ⟨#[]⟩, .string ⟨#[]⟩, .int .i64 0] 48)).alloc (.cells #[.slice A0 bs.length c0, .bool false] 83)) fun e w' => ∃ ad, e = .returned (.slice (some ad) 1 1) ∧ (∀ W : World, Below w.heap.size w W → W.cell? ad = some (.int .u8 k.toNat)) ∧ RB w (w.heap.size + 1) b false w' ∧ Read (w.heap.size + 1) ((w.alloc (.cells #[.int .i64 0, .slice none 0 0, .int .i64 0, .bool false, .int .i64 0, .bool false, .bool false, .string ⟨#[]⟩, .int .i64 0, .string ⟨#[]⟩, .slice none 0 0, .slice none 0 0, .string ⟨#[]⟩, .string ⟨#[]⟩, .string ⟨#[]⟩, .string ⟨#[]⟩, .int .i64 0] 48)).alloc (.cells #[.slice A0 bs.length c0, .bool false] 83)) w' := by
    refine (cut_ok hRB 1 (by rw [hbs]; simp)).mono ?_
    rintro e w' ⟨A, rfl, hR, h1, h2⟩
    rw [hbs] at hR h1
    obtain ⟨ad, e, hc⟩ := hR.2.2 (by omega)
    subst e
    have h0 := hc 0 (by omega)
    have ha : ad.add 0 = ad := by simp [Addr.add]
    rw [ha] at h0
    exact ⟨ad, rfl, fun W hW => pw_cell_below hW h0, h1, h2⟩
  have hk256 : k.toNat < 256 := k.toNat_lt
  have hwk : IntKind.i64.wrap (k.toNat : Int) = (k.toNat : Int) := by rw [IntKind.wrap_i64]; omega
  replace hres := Aside0.mk hres
  replace hP := Aside0.mk hP
  have cP := fun (W : World) (h : REnv E a W) => parts_any E a (k.toNat : Int) W h
  rw [parts_out hk] at cP
  clear hRB hb0 hb1 hrb hR hc hbs hk
  generalize k.toNat = kn at *
  go_enter Tryz.func24, Tryz.ntmps24
  go_wp2_with (first
    | (go_at_call 45; refine (cP _ hPA.out).mono ?_; rintro en w2 ⟨rfl, rfl⟩)
    | (go_at_call 50; refine cC.mono ?_; rintro en w1 ⟨ad, rfl, hca0, h1, hr1⟩; have hca := hca0 w1 h1.low; have hc1 := h1.cells.1; have hres1 := (hr1.block w.heap.size (blk_lt hres.out) (by intro e; injection e with e; omega)).trans hres.out; have hcB := cellAll hres1; have hfB := frozenAll hres1; have hev := (hP.out.below h1.low).cell; have hlow := Aside0.mk h1.low; replace hres1 := Aside0.mk hres1; have hPA := Aside0.mk (hP.out.below h1.low); clear cC hr1))
  go_region_with (fail)
  all_goals (go_wp2_with fail)
  all_goals refine dec_ret (cs := zeroA) (B := w.heap.size) (x := ev a) (by rfl) (by rfl) (by with_reducible (first | exact blk_set (blk_set (blk_set (blk_set (blk_set (blk_set (blk_set (blk_set (blk_set (blk_set (blk_set (blk_set (blk_set (blk_set (blk_set (blk_set (blk_set (hres1.out) 0 _) 1 _) 2 _) 3 _) 4 _) 5 _) 6 _) 7 _) 8 _) 9 _) 10 _) 11 _) 12 _) 13 _) 14 _) 15 _) 16 _ | exact drew_blk (blk_set (blk_set (blk_set (blk_set (blk_set (blk_set (blk_set (blk_set (blk_set (blk_set (blk_set (blk_set (blk_set (blk_set (blk_set (blk_set (blk_set (hres1.out) 0 _) 1 _) 2 _) 3 _) 4 _) 5 _) 6 _) 7 _) 8 _) 9 _) 10 _) 11 _) 12 _) 13 _) 14 _) 15 _) 16 _) | exact blk_set (blk_set (blk_set (blk_set (blk_set (blk_set (blk_set (blk_set (blk_set (blk_set (blk_set (blk_set (blk_set (blk_set (blk_set (blk_set (blk_set (drew_blk hres1.out) 0 _) 1 _) 2 _) 3 _) 4 _) 5 _) 6 _) 7 _) 8 _) 9 _) 10 _) 11 _) 12 _) 13 _) 14 _) 15 _) 16 _)) rfl (.inr ⟨rfl, rfl, (by with_reducible (first | ((iterate 17 refine below_set ?_ (Nat.le_refl _)); exact hlow.out) | (refine below_drew ?_; (iterate 17 refine below_set ?_ (Nat.le_refl _)); exact hlow.out) | ((iterate 17 refine below_set ?_ (Nat.le_refl _)); exact below_drew hlow.out)))⟩)
end Go.Proofs.YtkdeleafgailhaaGreatDoor
end
section
set_option linter.unusedVariables false
set_option linter.unusedSimpArgs false
namespace Go.Proofs.YtkdeleafgailhaaGreatDoor
open Go Go.RowKit Go.Proofs.YtkdeleafgailhaaGreatDoorW.PrintWords

/-- A region within code, by its number. -/
def regionIn (n : Nat) : Code → Option Code
  | .region i ops b => if i = n then some (.region i ops b) else none
  | .seq a b => (regionIn n a).or (regionIn n b)
  | .cond _ a b => (regionIn n a).or (regionIn n b)
  | .block _ a => regionIn n a
  | .loop a => regionIn n a
  | .scope a => regionIn n a
  | _ => none
set_option maxRecDepth 100000 in
set_option maxHeartbeats 32000000 in
theorem exit_23 (a : Addr) (w W : World) (c : Code) (hc : Tryz.f24.body.bind (regionIn 23) = some c) (hB00 : w.heap.size ≠ 0) (hres1 : W.heap[w.heap.size]? = some (.cells zeroA 48 (0, 0))) (hev : W.cell? ⟨0, 0, none⟩ = some (.iface 228 (.pointer (some a)))) (hlow : Below w.heap.size w W)
    {K : Act → World → Prop} {Q' : Exit → Act → World → Prop} {u0 u1 u3 u4 u5 u6 u7 u8 u9 u10 u11 u12 u13 u14 u15 u16 u17 u18 u19 u20 u21 u22 u23 u24 u25 u26 u27 u28 u29 u30 u31 u32 u33 u34 u35 u36 u37 u38 u39 u40 u41 u42 u43 u44 u45 u46 u47 u48 u49 u50 u51 u52 u53 u54 u55 u56 u57 u58 u59 u60 u61 u62 u63 u64 u65 u66 u67 u68 u69 u70 u71 u72 u73 u74 u75 u76 u77 u78 u79 u80 u81 u82 u83 u84 u85 u86 u87 u88 u89 u90 u91 : Value}
    (h : ∀ (x y : Value) (W' : World), W'.heap[w.heap.size]? = some (.cells zeroA 48 (0, 0)) → Below w.heap.size w W' → K { tmps := #[u0, u1, .pointer (some ⟨w.heap.size, 0, none⟩), ev a, u4, u5, u6, u7, u8, u9, u10, u11, u12, u13, u14, u15, u16, u17, u18, u19, u20, u21, u22, u23, u24, u25, u26, u27, u28, u29, u30, u31, u32, u33, u34, u35, u36, u37, u38, u39, u40, u41, u42, u43, u44, u45, u46, u47, u48, u49, u50, u51, u52, u53, u54, u55, u56, u57, u58, u59, u60, u61, u62, u63, u64, u65, u66, u67, u68, u69, u70, u71, u72, u73, u74, u75, u76, u77, u78, u79, u80, x, y, u83, u84, u85, u86, u87, u88, u89, u90, u91], defers := [] } W') :
    c.wp Tryz.prog (Exit.then K Q') { tmps := #[u0, u1, .pointer (some ⟨w.heap.size, 0, none⟩), u3, u4, u5, u6, u7, u8, u9, u10, u11, u12, u13, u14, u15, u16, u17, u18, u19, u20, u21, u22, u23, u24, u25, u26, u27, u28, u29, u30, u31, u32, u33, u34, u35, u36, u37, u38, u39, u40, u41, u42, u43, u44, u45, u46, u47, u48, u49, u50, u51, u52, u53, u54, u55, u56, u57, u58, u59, u60, u61, u62, u63, u64, u65, u66, u67, u68, u69, u70, u71, u72, u73, u74, u75, u76, u77, u78, u79, u80, u81, u82, u83, u84, u85, u86, u87, u88, u89, u90, u91], defers := [] } W := by
  unfold zeroA at hres1
  have hcB := cellAll hres1
  have hfB := frozenAll hres1
  replace hres1 := Aside0.mk hres1
  replace hlow := Aside0.mk hlow
  simp [Tryz.f24, regionIn] at hc
  subst hc
  refine wp_region_noPanic ?_
  go_region_with (fail)
  all_goals refine NoPanic.normal ?_
  all_goals refine h _ _ _ (by with_reducible (first | exact blk_set (blk_set (blk_set (blk_set (blk_set (blk_set (blk_set (blk_set (blk_set (blk_set (blk_set (blk_set (blk_set (blk_set (blk_set (blk_set (blk_set (hres1.out) 0 _) 1 _) 2 _) 3 _) 4 _) 5 _) 6 _) 7 _) 8 _) 9 _) 10 _) 11 _) 12 _) 13 _) 14 _) 15 _) 16 _ | exact drew_blk (blk_set (blk_set (blk_set (blk_set (blk_set (blk_set (blk_set (blk_set (blk_set (blk_set (blk_set (blk_set (blk_set (blk_set (blk_set (blk_set (blk_set (hres1.out) 0 _) 1 _) 2 _) 3 _) 4 _) 5 _) 6 _) 7 _) 8 _) 9 _) 10 _) 11 _) 12 _) 13 _) 14 _) 15 _) 16 _) | exact blk_set (blk_set (blk_set (blk_set (blk_set (blk_set (blk_set (blk_set (blk_set (blk_set (blk_set (blk_set (blk_set (blk_set (blk_set (blk_set (blk_set (drew_blk hres1.out) 0 _) 1 _) 2 _) 3 _) 4 _) 5 _) 6 _) 7 _) 8 _) 9 _) 10 _) 11 _) 12 _) 13 _) 14 _) 15 _) 16 _)) (by with_reducible (first | ((iterate 17 refine below_set ?_ (Nat.le_refl _)); exact hlow.out) | (refine below_drew ?_; (iterate 17 refine below_set ?_ (Nat.le_refl _)); exact hlow.out) | ((iterate 17 refine below_set ?_ (Nat.le_refl _)); exact below_drew hlow.out)))
set_option maxRecDepth 100000 in
set_option maxHeartbeats 32000000 in
theorem exit_25 (a : Addr) (w W : World) (c : Code) (hc : Tryz.f24.body.bind (regionIn 25) = some c) (hB00 : w.heap.size ≠ 0) (hres1 : W.heap[w.heap.size]? = some (.cells zeroA 48 (0, 0))) (hev : W.cell? ⟨0, 0, none⟩ = some (.iface 228 (.pointer (some a)))) (hlow : Below w.heap.size w W)
    {K : Act → World → Prop} {Q' : Exit → Act → World → Prop} {u0 u1 u3 u4 u5 u6 u7 u8 u9 u10 u11 u12 u13 u14 u15 u16 u17 u18 u19 u20 u21 u22 u23 u24 u25 u26 u27 u28 u29 u30 u31 u32 u33 u34 u35 u36 u37 u38 u39 u40 u41 u42 u43 u44 u45 u46 u47 u48 u49 u50 u51 u52 u53 u54 u55 u56 u57 u58 u59 u60 u61 u62 u63 u64 u65 u66 u67 u68 u69 u70 u71 u72 u73 u74 u75 u76 u77 u78 u79 u80 u81 u82 u83 u84 u85 u86 u87 u88 u89 u90 u91 : Value}
    (h : ∀ (x y : Value) (W' : World), W'.heap[w.heap.size]? = some (.cells zeroA 48 (0, 0)) → Below w.heap.size w W' → K { tmps := #[u0, u1, .pointer (some ⟨w.heap.size, 0, none⟩), ev a, u4, u5, u6, u7, u8, u9, u10, u11, u12, u13, u14, u15, u16, u17, u18, u19, u20, u21, u22, u23, u24, u25, u26, u27, u28, u29, u30, u31, u32, u33, u34, u35, u36, u37, u38, u39, u40, u41, u42, u43, u44, u45, u46, u47, u48, u49, u50, u51, u52, u53, u54, u55, u56, u57, u58, u59, u60, u61, u62, u63, u64, u65, u66, u67, u68, u69, u70, u71, u72, u73, u74, u75, u76, u77, u78, u79, u80, u81, u82, u83, u84, u85, u86, u87, u88, x, y, u91], defers := [] } W') :
    c.wp Tryz.prog (Exit.then K Q') { tmps := #[u0, u1, .pointer (some ⟨w.heap.size, 0, none⟩), u3, u4, u5, u6, u7, u8, u9, u10, u11, u12, u13, u14, u15, u16, u17, u18, u19, u20, u21, u22, u23, u24, u25, u26, u27, u28, u29, u30, u31, u32, u33, u34, u35, u36, u37, u38, u39, u40, u41, u42, u43, u44, u45, u46, u47, u48, u49, u50, u51, u52, u53, u54, u55, u56, u57, u58, u59, u60, u61, u62, u63, u64, u65, u66, u67, u68, u69, u70, u71, u72, u73, u74, u75, u76, u77, u78, u79, u80, u81, u82, u83, u84, u85, u86, u87, u88, u89, u90, u91], defers := [] } W := by
  unfold zeroA at hres1
  have hcB := cellAll hres1
  have hfB := frozenAll hres1
  replace hres1 := Aside0.mk hres1
  replace hlow := Aside0.mk hlow
  simp [Tryz.f24, regionIn] at hc
  subst hc
  refine wp_region_noPanic ?_
  go_region_with (fail)
  all_goals refine NoPanic.normal ?_
  all_goals refine h _ _ _ (by with_reducible (first | exact blk_set (blk_set (blk_set (blk_set (blk_set (blk_set (blk_set (blk_set (blk_set (blk_set (blk_set (blk_set (blk_set (blk_set (blk_set (blk_set (blk_set (hres1.out) 0 _) 1 _) 2 _) 3 _) 4 _) 5 _) 6 _) 7 _) 8 _) 9 _) 10 _) 11 _) 12 _) 13 _) 14 _) 15 _) 16 _ | exact drew_blk (blk_set (blk_set (blk_set (blk_set (blk_set (blk_set (blk_set (blk_set (blk_set (blk_set (blk_set (blk_set (blk_set (blk_set (blk_set (blk_set (blk_set (hres1.out) 0 _) 1 _) 2 _) 3 _) 4 _) 5 _) 6 _) 7 _) 8 _) 9 _) 10 _) 11 _) 12 _) 13 _) 14 _) 15 _) 16 _) | exact blk_set (blk_set (blk_set (blk_set (blk_set (blk_set (blk_set (blk_set (blk_set (blk_set (blk_set (blk_set (blk_set (blk_set (blk_set (blk_set (blk_set (drew_blk hres1.out) 0 _) 1 _) 2 _) 3 _) 4 _) 5 _) 6 _) 7 _) 8 _) 9 _) 10 _) 11 _) 12 _) 13 _) 14 _) 15 _) 16 _)) (by with_reducible (first | ((iterate 17 refine below_set ?_ (Nat.le_refl _)); exact hlow.out) | (refine below_drew ?_; (iterate 17 refine below_set ?_ (Nat.le_refl _)); exact hlow.out) | ((iterate 17 refine below_set ?_ (Nat.le_refl _)); exact below_drew hlow.out)))
end Go.Proofs.YtkdeleafgailhaaGreatDoor
end
section
set_option linter.unusedVariables false
set_option linter.unusedSimpArgs false
namespace Go.Proofs.YtkdeleafgailhaaGreatDoor
open Go Go.RowKit Go.Proofs.YtkdeleafgailhaaGreatDoorW.PrintWords

theorem blk_out {W : World} {be : Nat} {d : Evn} {PA : Option Addr} {pc : Nat} {A : Option Addr} {lc : Nat} {B : Option Addr} {ld : Nat} (h : W.heap[be]? = some (.cells (evA d PA pc A lc B ld) 48 (0, 0))) (o1 : Outc) (A9 : Option Addr) (c9 : Nat) (B9 : Option Addr) (d9 : Nat) : (((((((((((W.setCell ⟨be, 3, none⟩ (.bool o1.fine)).setCell ⟨be, 4, none⟩ (.int .i64 o1.value.kind)).setCell ⟨be, 5, none⟩ (.bool o1.value.truth)).setCell ⟨be, 6, none⟩ (.bool o1.value.neg)).setCell ⟨be, 7, none⟩ (.string o1.value.digits)).setCell ⟨be, 8, none⟩ (.int .i64 o1.value.exp)).setCell ⟨be, 9, none⟩ (.string o1.value.text)).setCell ⟨be, 10, none⟩ (.slice A9 o1.value.list.length c9)).setCell ⟨be, 11, none⟩ (.slice B9 o1.value.fields.length d9)).setCell ⟨be, 12, none⟩ (.string ⟨o1.err.toArray⟩)).setCell ⟨be, 13, none⟩ (.string ⟨o1.cause.toArray⟩)).heap[be]? = some (.cells (evA { d with out := o1 } PA pc A9 c9 B9 d9) 48 (0, 0)) := by
  unfold evA at h
  have := blk_set (blk_set (blk_set (blk_set (blk_set (blk_set (blk_set (blk_set (blk_set (blk_set (blk_set (h) 3 (.bool o1.fine)) 4 (.int .i64 o1.value.kind)) 5 (.bool o1.value.truth)) 6 (.bool o1.value.neg)) 7 (.string o1.value.digits)) 8 (.int .i64 o1.value.exp)) 9 (.string o1.value.text)) 10 (.slice A9 o1.value.list.length c9)) 11 (.slice B9 o1.value.fields.length d9)) 12 (.string ⟨o1.err.toArray⟩)) 13 (.string ⟨o1.cause.toArray⟩)
  unfold evA
  refine this.trans ?_
  simp
theorem read_row (W : World) (g : Nat) (cs : Array Value) : Read g W (W.setRow g cs) :=
  ⟨rfl, rfl, rfl, by simp [World.setRow], fun k hk hne => setRow_other W g k cs (fun e => hne (by rw [e]))⟩
theorem dec_end {w : World} {s : ByteArray} {be base p : Nat} {d : Evn} {PA : Option Addr} {pc : Nat} {A : Option Addr} {lc : Nat} {B : Option Addr} {ld : Nat} {b : List UInt8} {W W' : World} (h : DecAt w s be base p d PA pc A lc B ld b W) (hch : Read w.heap.size W W') : EvK W' d (evA d PA pc A lc B ld).toList := by
  have h1 := h.bel
  have h2 := h.bal
  have hown := own_read h.own hch (by omega)
  have hK := kV.K_of_M (M_only h.val hch (by omega))
  obtain ⟨A2, c2, e2, hr, hl⟩ : ∃ A2 c2, Value.slice PA d.place.length pc = .slice A2 d.place.length c2 ∧ ReadsInt W' .i64 A2 d.place.length d.place ∧ d.place.length ≤ c2 := by
    rcases hown.2 with ⟨e, hz⟩ | ⟨g, cap, cur, e, _, _, hnc, _⟩
    · injection e with e1 e2 e3
      refine ⟨PA, pc, rfl, ⟨rfl, by omega, fun hp => absurd hp (by omega)⟩, by omega⟩
    · obtain ⟨A9, c9, e9, hR9⟩ := own_reads hown
      injection e9 with e91 e92 e93
      injection e with e81 e82 e83
      subst e91 e93
      exact ⟨PA, pc, rfl, hR9, by omega⟩
  exact ⟨A2, c2, valL d.out.value A lc B ld, by rw [← e2]; rfl, hr, hl, hK⟩
set_option maxRecDepth 100000 in
set_option maxHeartbeats 32000000 in
theorem decode_good (E : ErrV) (a : Addr) (bs : List UInt8) (A0 : Option Addr) (c0 : Nat) (w : World) (hR : ReadsInt w .u8 A0 bs.length (bint bs)) (hc : bs.length ≤ c0) (hP : REnv E a w) (k : UInt8) (b : List UInt8) (hbs : bs = k :: b) (hk : 1 ≤ (k.toNat : Int) ∧ (k.toNat : Int) ≤ 7) (hbl : b.length ≤ 140737488355328) :
    Calls Tryz.prog 24 #[.slice A0 bs.length c0] w fun en w' => DecGives a w (dec (k :: b)) en w' := by
  have hb0 := (Below.refl w.heap.size w).alloc (Nat.le_refl _) (.cells #[.int .i64 0, .slice none 0 0, .int .i64 0, .bool false, .int .i64 0, .bool false, .bool false, .string ⟨#[]⟩, .int .i64 0, .string ⟨#[]⟩, .slice none 0 0, .slice none 0 0, .string ⟨#[]⟩, .string ⟨#[]⟩, .string ⟨#[]⟩, .string ⟨#[]⟩, .int .i64 0] 48)
  have hb1 := hb0.alloc (by simp) (.cells #[.slice A0 bs.length c0, .bool false] 83)
  obtain ⟨hres, hrb⟩ := boxes w (.cells #[.int .i64 0, .slice none 0 0, .int .i64 0, .bool false, .int .i64 0, .bool false, .bool false, .string ⟨#[]⟩, .int .i64 0, .string ⟨#[]⟩, .slice none 0 0, .slice none 0 0, .string ⟨#[]⟩, .string ⟨#[]⟩, .string ⟨#[]⟩, .string ⟨#[]⟩, .int .i64 0] 48) (.cells #[.slice A0 bs.length c0, .bool false] 83)
  have hRB : RB w (w.heap.size + 1) bs false ((w.alloc (.cells #[.int .i64 0, .slice none 0 0, .int .i64 0, .bool false, .int .i64 0, .bool false, .bool false, .string ⟨#[]⟩, .int .i64 0, .string ⟨#[]⟩, .slice none 0 0, .slice none 0 0, .string ⟨#[]⟩, .string ⟨#[]⟩, .string ⟨#[]⟩, .string ⟨#[]⟩, .int .i64 0] 48)).alloc (.cells #[.slice A0 bs.length c0, .bool false] 83)) := ⟨⟨A0, c0, hrb, hR, hc⟩, by omega, hb1⟩
  have hB00 : w.heap.size ≠ 0 := by have := (var_block (g := 0) (by kernel_rfl) hP.err).1; omega
  have cC : Calls Tryz.prog 50 #[.pointer (some ⟨w.heap.size + 1, 0, none⟩), .int .i64 1] ((w.alloc (.cells #[.int .i64 0, .slice none 0 0, .int .i64 0, .bool false, .int .i64 0, .bool false, .bool false, .string ⟨#[]⟩, .int .i64 0, .string ⟨#[]⟩, .slice none 0 0, .slice none 0 0, .string ⟨#[]⟩, .string ⟨#[]⟩, .string ⟨#[]⟩, .string ⟨#[]⟩, .int .i64 0] 48)).alloc (.cells #[.slice A0 bs.length c0, .bool false] 83)) fun e w' => ∃ ad, e = .returned (.slice (some ad) 1 1) ∧ (∀ W : World, Below w.heap.size w W → W.cell? ad = some (.int .u8 k.toNat)) ∧ RB w (w.heap.size + 1) b false w' ∧ Read (w.heap.size + 1) ((w.alloc (.cells #[.int .i64 0, .slice none 0 0, .int .i64 0, .bool false, .int .i64 0, .bool false, .bool false, .string ⟨#[]⟩, .int .i64 0, .string ⟨#[]⟩, .slice none 0 0, .slice none 0 0, .string ⟨#[]⟩, .string ⟨#[]⟩, .string ⟨#[]⟩, .string ⟨#[]⟩, .int .i64 0] 48)).alloc (.cells #[.slice A0 bs.length c0, .bool false] 83)) w' := by
    refine (cut_ok hRB 1 (by rw [hbs]; simp)).mono ?_
    rintro e w' ⟨A, rfl, hR, h1, h2⟩
    rw [hbs] at hR h1
    obtain ⟨ad, e, hc⟩ := hR.2.2 (by omega)
    subst e
    have h0 := hc 0 (by omega)
    have ha : ad.add 0 = ad := by simp [Addr.add]
    rw [ha] at h0
    exact ⟨ad, rfl, fun W hW => pw_cell_below hW h0, h1, h2⟩
  have hk256 : k.toNat < 256 := k.toNat_lt
  have hwk : IntKind.i64.wrap (k.toNat : Int) = (k.toNat : Int) := by rw [IntKind.wrap_i64]; omega
  replace hres := Aside0.mk hres
  replace hP := Aside0.mk hP
  have cP := fun (W : World) (h : REnv E a W) => parts_any E a (k.toNat : Int) W h
  have hse := partsS_some hk
  have hpn := parts_some hk
  have hsz := partsS_size (k.toNat : Int)
  have hat := partsS_at (k.toNat : Int)
  obtain ⟨fin, hfin⟩ : ∃ fin, decP (partsOf (k.toNat : Int)) (zeroE (k.toNat : Int)) b = fin := ⟨_, rfl⟩
  have hdec : dec (k :: b) = decFin fin := by rw [dec_eq hpn, hfin]
  rw [hdec]
  clear hRB hb0 hb1 hrb hR hc hbs hk hpn hdec
  generalize k.toNat = kn at *
  generalize partsS (kn : Int) = s at *
  generalize partsOf (kn : Int) = ps at *
  replace hfin := Aside0.mk hfin
  replace hsz := Aside0.mk hsz
  replace hat := Aside0.mk hat
  replace hbl := Aside0.mk hbl
  go_enter Tryz.func24, Tryz.ntmps24
  go_upto_region 6 with (first
    | ((with_reducible refine list_build1 (.tmp 31) (kn : Int) ?o1 ?o2 ?o3 ?_); (case o1 => rfl); (case o2 => rfl); (case o3 => rfl))
    | ((with_reducible refine list_store (cs := kindA (kn : Int)) (old := zeroA) (B := w1.heap.size) (.tmp 6) (.tmp 32) ?o0 ?o1 ?o2 ?o3 ?o4 ?o5 ?o6 (kind_one _) ?_); (case o0 => rfl); (case o1 => rfl); (case o2 => rfl); (case o3 => rfl); (case o4 => exact heap_alloc_new w1 _); (case o5 => rfl); (case o6 => rfl))
    | (go_at_call 45; refine (cP _ hPA.out).mono ?_; rintro en w2 ⟨rfl, hww⟩; rw [hww]; clear hww w2; have hba := low_row (cs := kindA (kn : Int)) ((Below.refl w1.heap.size w1).alloc (Nat.le_refl _) (.cells #[.int .i64 0, .slice none 0 0, .int .i64 0, .bool false, .int .i64 0, .bool false, .bool false, .string ⟨#[]⟩, .int .i64 0, .string ⟨#[]⟩, .slice none 0 0, .slice none 0 0, .string ⟨#[]⟩, .string ⟨#[]⟩, .string ⟨#[]⟩, .string ⟨#[]⟩, .int .i64 0] 48)) (Nat.le_refl _); have hPB := Aside0.mk (hPA.out.below hba); have hxN := setRow_heap (w1.alloc (.cells #[.int .i64 0, .slice none 0 0, .int .i64 0, .bool false, .int .i64 0, .bool false, .bool false, .string ⟨#[]⟩, .int .i64 0, .string ⟨#[]⟩, .slice none 0 0, .slice none 0 0, .string ⟨#[]⟩, .string ⟨#[]⟩, .string ⟨#[]⟩, .string ⟨#[]⟩, .int .i64 0] 48)) w1.heap.size _ (kindA (kn : Int)) _ _ (heap_alloc_new w1 _); have hcaN := hca0 _ (h1.low.trans (hba.mono h1.low.size)))
    | (go_at_call 50; refine cC.mono ?_; rintro en w1 ⟨ad, rfl, hca0, h1, hr1⟩; have hca := hca0 w1 h1.low; have hc1 := h1.cells.1; have hres1 := (hr1.block w.heap.size (blk_lt hres.out) (by intro e; injection e with e; omega)).trans hres.out; have hcB := cellAll hres1; have hfB := frozenAll hres1; have hev := (hP.out.below h1.low).cell; have hlow := Aside0.mk h1.low; replace hres1 := Aside0.mk hres1; have hPA := Aside0.mk (hP.out.below h1.low); clear cC hr1))
  have hsN : ((w1.alloc (.cells #[.int .i64 0, .slice none 0 0, .int .i64 0, .bool false, .int .i64 0, .bool false, .bool false, .string ⟨#[]⟩, .int .i64 0, .string ⟨#[]⟩, .slice none 0 0, .slice none 0 0, .string ⟨#[]⟩, .string ⟨#[]⟩, .string ⟨#[]⟩, .string ⟨#[]⟩, .int .i64 0] 48)).setRow w1.heap.size (kindA (kn : Int))).heap.size = w1.heap.size + 1 := by simp
  have hbb := hba.alloc (by rw [hsN]; omega) (.stringIter s 0)
  have hD0 : DecAt w s w1.heap.size (w1.heap.size + 2) 0 (zeroE kn) none 0 none 0 none 0 b (((w1.alloc (.cells #[.int .i64 0, .slice none 0 0, .int .i64 0, .bool false, .int .i64 0, .bool false, .bool false, .string ⟨#[]⟩, .int .i64 0, .string ⟨#[]⟩, .slice none 0 0, .slice none 0 0, .string ⟨#[]⟩, .string ⟨#[]⟩, .string ⟨#[]⟩, .string ⟨#[]⟩, .int .i64 0] 48)).setRow w1.heap.size (kindA (kn : Int))).alloc (.stringIter s 0)) := by
    have hb2 := (Below.refl ((w1.alloc (.cells #[.int .i64 0, .slice none 0 0, .int .i64 0, .bool false, .int .i64 0, .bool false, .bool false, .string ⟨#[]⟩, .int .i64 0, .string ⟨#[]⟩, .slice none 0 0, .slice none 0 0, .string ⟨#[]⟩, .string ⟨#[]⟩, .string ⟨#[]⟩, .string ⟨#[]⟩, .int .i64 0] 48)).setRow w1.heap.size (kindA (kn : Int))).heap.size ((w1.alloc (.cells #[.int .i64 0, .slice none 0 0, .int .i64 0, .bool false, .int .i64 0, .bool false, .bool false, .string ⟨#[]⟩, .int .i64 0, .string ⟨#[]⟩, .slice none 0 0, .slice none 0 0, .string ⟨#[]⟩, .string ⟨#[]⟩, .string ⟨#[]⟩, .string ⟨#[]⟩, .int .i64 0] 48)).setRow w1.heap.size (kindA (kn : Int)))).alloc (Nat.le_refl _) (.stringIter s 0)
    have hx2 := heap_alloc_new ((w1.alloc (.cells #[.int .i64 0, .slice none 0 0, .int .i64 0, .bool false, .int .i64 0, .bool false, .bool false, .string ⟨#[]⟩, .int .i64 0, .string ⟨#[]⟩, .slice none 0 0, .slice none 0 0, .string ⟨#[]⟩, .string ⟨#[]⟩, .string ⟨#[]⟩, .string ⟨#[]⟩, .int .i64 0] 48)).setRow w1.heap.size (kindA (kn : Int))) (.stringIter s 0)
    rw [hsN] at hx2
    have hrl : w.heap.size + 1 < w1.heap.size := by obtain ⟨_, _, hh, _⟩ := h1.blk; exact blk_lt hh
    exact ⟨(hbb.block _ (blk_lt hres1.out)).trans hres1.out, h1.below hbb, (hb2.block _ (by rw [hsN]; omega)).trans hxN, hx2, own_nil _ _ _ _, nul_M _ _, hrl, by omega, by rw [show (((w1.alloc (.cells #[.int .i64 0, .slice none 0 0, .int .i64 0, .bool false, .int .i64 0, .bool false, .bool false, .string ⟨#[]⟩, .int .i64 0, .string ⟨#[]⟩, .slice none 0 0, .slice none 0 0, .string ⟨#[]⟩, .string ⟨#[]⟩, .string ⟨#[]⟩, .string ⟨#[]⟩, .int .i64 0] 48)).setRow w1.heap.size (kindA (kn : Int))).alloc (.stringIter s 0)).heap.size = w1.heap.size + 2 by simp]; exact Nat.le_refl _⟩
  dsimp only [Act.put]
  generalize hWN : ((w1.alloc (.cells #[.int .i64 0, .slice none 0 0, .int .i64 0, .bool false, .int .i64 0, .bool false, .bool false, .string ⟨#[]⟩, .int .i64 0, .string ⟨#[]⟩, .slice none 0 0, .slice none 0 0, .string ⟨#[]⟩, .string ⟨#[]⟩, .string ⟨#[]⟩, .string ⟨#[]⟩, .int .i64 0] 48)).setRow w1.heap.size (kindA (kn : Int))) = WN at *
  clear hWN
  have hcN := cellAll hxN
  unfold kindA at hcN
  go_cut [36] from 7 (fun x36 wx => x36 = .pointer (some ⟨w1.heap.size + 1, 0, none⟩) ∧ DecAt w s w1.heap.size (w1.heap.size + 2) 0 (zeroE kn) none 0 none 0 none 0 b wx)
  case first =>
    go_wp2_with (go_at_call 45; refine (cP _ hPB.out).mono ?_; rintro en w2 ⟨rfl, rfl⟩)
    go_meet
    exact ⟨rfl, hD0⟩
  case rest =>
  obtain ⟨rfl, hD0⟩ := hcut
  clear hbb hba hxN hcN hPB hcaN hsN
  generalize w1.heap.size = be at *
  replace hD0 := Aside0.mk hD0
  clear hca0 hca hc1 hcB hfB hev h1 cP hPA hlow hres1
  go_wp2_with fail
  go_loopw [8] (fun x8 wr => ∃ (j : Nat) (d : Evn) (PA : Option Addr) (pc : Nat) (A : Option Addr) (lc : Nat) (B : Option Addr) (ld : Nat) (b1 : List UInt8), DecAt w s be (be + 2) j d PA pc A lc B ld b1 wr ∧ j ≤ ps.length ∧ Aside0 (decP (ps.drop j) d b1 = fin) ∧ EvOK d ∧ Aside0 (b1.length ≤ 140737488355328)) (fun _ wr => s.size - wr.iterPos (be + 1))
  case atStart => exact ⟨0, zeroE kn, none, 0, none, 0, none, 0, b, hD0.out, Nat.zero_le _, ⟨hfin.out⟩, zero_ok _, hbl⟩
  case round =>
    obtain ⟨j, d, PA, pc, A, lc, B, ld, b1, hA, hj, hfn, hok, hb1l⟩ := hrel
    by_cases hlt : j < ps.length
    · obtain ⟨c, hc⟩ : ∃ c, ps[j]? = some c := ⟨_, List.getElem?_eq_getElem hlt⟩
      have hlt2 : j < s.size := by rw [hsz.out]; exact hlt
      obtain ⟨W2, hW2⟩ : ∃ W2, wr.iterAt (be + 1) s (j + 1) = W2 := ⟨_, rfl⟩
      have hA2 := hA.next (j + 1)
      rw [hW2] at hA2
      obtain ⟨cn, hcn⟩ : ∃ cn : Int, (c.byte.toNat : Int) = cn := ⟨_, rfl⟩
      have hnx : ∀ ty, (Instr.next (.pointer (some ⟨be + 1, 0, none⟩)) true ty).run Tryz.prog wr = .ok (.tuple #[.bool true, .int .i64 j, .int .i32 cn]) W2 := fun ty => by
        have h := Lib.run_next_ascii_at (P := Tryz.prog) wr (be + 1) s j ty hA.it hlt2 (by rw [hat.out j c hc hlt2]; exact byte_low c)
        rw [hat.out j c hc hlt2, hW2, hcn] at h
        exact h
      have hless : ∀ {d' : Evn} {PA : Option Addr} {pc : Nat} {A : Option Addr} {lc : Nat} {B : Option Addr} {ld : Nat} {b' : List UInt8} {W' : World}, DecAt w s be (be + 2) (j + 1) d' PA pc A lc B ld b' W' → s.size - W'.iterPos (be + 1) < s.size - wr.iterPos (be + 1) := fun h => by
        simp only [World.iterPos, h.it, hA.it]
        omega
      replace hcn := Aside0.mk hcn
      replace hc := Aside0.mk hc
      go_upto_block 2 with (fail)
      go_cut [] from 41 to 70 (fun wx => DecMid w s be (be + 2) (j + 1) c d b1 wx)
      case first =>
        clear hless hfn hD0
        replace hcn := hcn.out
        replace hc := hc.out
        clear hc
        cases c with
        | m =>
          have e9 : cn = 109 := hcn.symm.trans rfl
          subst e9
          have hT := rtext_any hA2.rd
          cases hT0 : textD b1 with
          | none =>
            have hrn : readP .m d b1 = none := by show (textD b1).map _ = none; rw [hT0]; rfl
            rw [hT0] at hT
            unfold TxtGives at hT
            replace hT0 := Aside0.mk hT0
            replace hrn := Aside0.mk hrn
            go_wp2_with (go_at_call 51; refine hT.mono ?_; rintro en w3 ⟨rfl, ⟨b3, h3⟩, hr3⟩; have hbx3 := (hr3.block _ (blk_lt hA2.box) (fun e => by injection e with e; have := hA2.bel; omega)).trans hA2.box; have hce := cellAll hbx3; have hfe := frozenAll hbx3; unfold evA at hce hfe; clear hbx3)
            go_meet
            exact mid_no hA2 hr3 h3 ((Read.refl _ w3).set_ 14 _) hrn.out
          | some q =>
            obtain ⟨x1, b2⟩ := q
            have hrn : readP .m d b1 = some ({ d with machine := x1 }, b2) := by show (textD b1).map _ = _; rw [hT0]; rfl
            rw [hT0] at hT
            unfold TxtGives at hT
            replace hT0 := Aside0.mk hT0
            replace hrn := Aside0.mk hrn
            go_wp2_with (go_at_call 51; refine hT.mono ?_; rintro en w3 ⟨rfl, h3, hr3⟩; have hA3 := hA2.read hr3 h3; have hce := cellAll hA3.box; have hfe := frozenAll hA3.box; unfold evA at hce hfe)
            go_meet
            exact .inr ⟨{ d with machine := x1 }, PA, pc, A, lc, B, ld, b2, hrn.out, hA3.put ((Read.refl _ w3).set_ 14 _) (blk_set hA3.box 14 _) hA3.own hA3.val⟩
        | i =>
          have e9 : cn = 105 := hcn.symm.trans rfl
          subst e9
          have hT := rtext_any hA2.rd
          cases hT0 : textD b1 with
          | none =>
            have hrn : readP .i d b1 = none := by show (textD b1).map _ = none; rw [hT0]; rfl
            rw [hT0] at hT
            unfold TxtGives at hT
            replace hT0 := Aside0.mk hT0
            replace hrn := Aside0.mk hrn
            go_wp2_with (go_at_call 51; refine hT.mono ?_; rintro en w3 ⟨rfl, ⟨b3, h3⟩, hr3⟩; have hbx3 := (hr3.block _ (blk_lt hA2.box) (fun e => by injection e with e; have := hA2.bel; omega)).trans hA2.box; have hce := cellAll hbx3; have hfe := frozenAll hbx3; unfold evA at hce hfe; clear hbx3)
            go_meet
            exact mid_no hA2 hr3 h3 ((Read.refl _ w3).set_ 15 _) hrn.out
          | some q =>
            obtain ⟨x1, b2⟩ := q
            have hrn : readP .i d b1 = some ({ d with input := x1 }, b2) := by show (textD b1).map _ = _; rw [hT0]; rfl
            rw [hT0] at hT
            unfold TxtGives at hT
            replace hT0 := Aside0.mk hT0
            replace hrn := Aside0.mk hrn
            go_wp2_with (go_at_call 51; refine hT.mono ?_; rintro en w3 ⟨rfl, h3, hr3⟩; have hA3 := hA2.read hr3 h3; have hce := cellAll hA3.box; have hfe := frozenAll hA3.box; unfold evA at hce hfe)
            go_meet
            exact .inr ⟨{ d with input := x1 }, PA, pc, A, lc, B, ld, b2, hrn.out, hA3.put ((Read.refl _ w3).set_ 15 _) (blk_set hA3.box 15 _) hA3.own hA3.val⟩
        | f =>
          have e9 : cn = 102 := hcn.symm.trans rfl
          subst e9
          have hT := rcount_any hA2.rd
          cases hT0 : cntD b1 with
          | none =>
            have hrn : readP .f d b1 = none := by show (cntD b1).map _ = none; rw [hT0]; rfl
            rw [hT0] at hT
            unfold CntGives at hT
            replace hT0 := Aside0.mk hT0
            replace hrn := Aside0.mk hrn
            go_wp2_with (go_at_call 52; refine hT.mono ?_; rintro en w3 ⟨rfl, ⟨b3, h3⟩, hr3⟩; have hbx3 := (hr3.block _ (blk_lt hA2.box) (fun e => by injection e with e; have := hA2.bel; omega)).trans hA2.box; have hce := cellAll hbx3; have hfe := frozenAll hbx3; unfold evA at hce hfe; clear hbx3)
            go_meet
            exact mid_no hA2 hr3 h3 ((Read.refl _ w3).set_ 16 _) hrn.out
          | some q =>
            obtain ⟨x1, b2⟩ := q
            have hrn : readP .f d b1 = some ({ d with fuel := x1 }, b2) := by show (cntD b1).map _ = _; rw [hT0]; rfl
            rw [hT0] at hT
            unfold CntGives at hT
            replace hT0 := Aside0.mk hT0
            replace hrn := Aside0.mk hrn
            go_wp2_with (go_at_call 52; refine hT.mono ?_; rintro en w3 ⟨rfl, h3, hr3⟩; have hA3 := hA2.read hr3 h3; have hce := cellAll hA3.box; have hfe := frozenAll hA3.box; unfold evA at hce hfe)
            go_meet
            exact .inr ⟨{ d with fuel := x1 }, PA, pc, A, lc, B, ld, b2, hrn.out, hA3.put ((Read.refl _ w3).set_ 16 _) (blk_set hA3.box 16 _) hA3.own hA3.val⟩
        | t =>
          have e9 : cn = 116 := hcn.symm.trans rfl
          subst e9
          have hT := rcount_any hA2.rd
          cases hT0 : cntD b1 with
          | none =>
            have hrn : readP .t d b1 = none := by show (cntD b1).map _ = none; rw [hT0]; rfl
            rw [hT0] at hT
            unfold CntGives at hT
            replace hT0 := Aside0.mk hT0
            replace hrn := Aside0.mk hrn
            go_wp2_with (go_at_call 52; refine hT.mono ?_; rintro en w3 ⟨rfl, ⟨b3, h3⟩, hr3⟩; have hbx3 := (hr3.block _ (blk_lt hA2.box) (fun e => by injection e with e; have := hA2.bel; omega)).trans hA2.box; have hce := cellAll hbx3; have hfe := frozenAll hbx3; unfold evA at hce hfe; clear hbx3)
            go_meet
            exact mid_no hA2 hr3 h3 ((Read.refl _ w3).set_ 2 _) hrn.out
          | some q =>
            obtain ⟨x1, b2⟩ := q
            have hrn : readP .t d b1 = some ({ d with time := x1 }, b2) := by show (cntD b1).map _ = _; rw [hT0]; rfl
            rw [hT0] at hT
            unfold CntGives at hT
            replace hT0 := Aside0.mk hT0
            replace hrn := Aside0.mk hrn
            go_wp2_with (go_at_call 52; refine hT.mono ?_; rintro en w3 ⟨rfl, h3, hr3⟩; have hA3 := hA2.read hr3 h3; have hce := cellAll hA3.box; have hfe := frozenAll hA3.box; unfold evA at hce hfe)
            go_meet
            exact .inr ⟨{ d with time := x1 }, PA, pc, A, lc, B, ld, b2, hrn.out, hA3.put ((Read.refl _ w3).set_ 2 _) (blk_set hA3.box 2 _) hA3.own hA3.val⟩
        | p =>
          have e9 : cn = 112 := hcn.symm.trans rfl
          subst e9
          have hT := rplace_any hA2.rd
          cases hT0 : placeD b1 with
          | none =>
            have hrn : readP .p d b1 = none := by show (placeD b1).map _ = none; rw [hT0]; rfl
            rw [hT0] at hT
            unfold PlcGives at hT
            replace hT0 := Aside0.mk hT0
            replace hrn := Aside0.mk hrn
            go_wp2_with (go_at_call 53; refine hT.mono ?_; rintro en w3 ⟨A9, n9, c9, rfl, ⟨b3, h3⟩, hr3⟩; have hbx3 := (hr3.block _ (blk_lt hA2.box) (fun e => by injection e with e; have := hA2.bel; omega)).trans hA2.box; have hce := cellAll hbx3; have hfe := frozenAll hbx3; unfold evA at hce hfe; clear hbx3)
            go_meet
            exact mid_no hA2 hr3 h3 ((Read.refl _ w3).set_ 1 _) hrn.out
          | some q =>
            obtain ⟨x1, b2⟩ := q
            have hrn : readP .p d b1 = some ({ d with place := x1 }, b2) := by show (placeD b1).map _ = _; rw [hT0]; rfl
            rw [hT0] at hT
            unfold PlcGives at hT
            replace hT0 := Aside0.mk hT0
            replace hrn := Aside0.mk hrn
            go_wp2_with (go_at_call 53; refine hT.mono ?_; rintro en w3 ⟨A9, c9, rfl, hown9, h3, hr3⟩; have hA3 := hA2.read hr3 h3; have hce := cellAll hA3.box; have hfe := frozenAll hA3.box; unfold evA at hce hfe; replace hown9 := Aside0.mk hown9)
            go_meet
            exact .inr ⟨{ d with place := x1 }, A9, c9, A, lc, B, ld, b2, hrn.out, hA3.put ((Read.refl _ w3).set_ 1 _) (blk_set hA3.box 1 _) (own_lower hown9.out hA2.bas) hA3.val⟩
        | o =>
          have e9 : cn = 111 := hcn.symm.trans rfl
          subst e9
          have hT := rout_any E hA2.rd hP.out.env
          cases hT0 : outD b1 with
          | none =>
            have hrn : readP .o d b1 = none := by show (outD b1).map _ = none; rw [hT0]; rfl
            rw [hT0] at hT
            unfold OutGives OutRB at hT
            replace hT0 := Aside0.mk hT0
            replace hrn := Aside0.mk hrn
            go_wp2_with (go_at_call 54; refine hT.mono ?_; rintro en w3 ⟨o1, vs1, rfl, hM9, hr3, ⟨b3, h3⟩⟩; obtain ⟨vl9, vf9, rfl, hRl9, hRf9⟩ := kV_openM hM9; obtain ⟨A9, c9, rfl⟩ := Kd.R_slice hRl9; obtain ⟨B9, d9, rfl⟩ := Kd.R_slice hRf9; clear hRl9 hRf9; have hbx3 := (hr3.block _ (blk_lt hA2.box) (fun e => by injection e with e; have := hA2.bel; omega)).trans hA2.box; have hce := cellAll hbx3; have hfe := frozenAll hbx3; unfold evA at hce hfe; unfold Outc.cells JV.cells; clear hbx3 hM9)
            go_meet
            exact mid_no hA2 hr3 h3 (by (iterate 11 refine Read.set_ ?_ _ _); exact Read.refl _ _) hrn.out
          | some q =>
            obtain ⟨x1, b2⟩ := q
            have hrn : readP .o d b1 = some ({ d with out := x1 }, b2) := by show (outD b1).map _ = _; rw [hT0]; rfl
            rw [hT0] at hT
            unfold OutGives OutRB at hT
            replace hT0 := Aside0.mk hT0
            replace hrn := Aside0.mk hrn
            go_wp2_with (go_at_call 54; refine hT.mono ?_; rintro en w3 ⟨o1, vs1, rfl, hM9, hr3, ⟨rfl, h3⟩⟩; obtain ⟨vl9, vf9, rfl, hRl9, hRf9⟩ := kV_openM hM9; obtain ⟨A9, c9, rfl⟩ := Kd.R_slice hRl9; obtain ⟨B9, d9, rfl⟩ := Kd.R_slice hRf9; clear hRl9 hRf9; have hA3 := hA2.read hr3 h3; have hce := cellAll hA3.box; have hfe := frozenAll hA3.box; unfold evA at hce hfe; unfold Outc.cells JV.cells; replace hM9 := Aside0.mk hM9)
            go_meet
            exact .inr ⟨{ d with out := o1 }, PA, pc, A9, c9, B9, d9, b2, hrn.out, hA3.put (by (iterate 11 refine Read.set_ ?_ _ _); exact Read.refl _ _) (blk_out hA3.box o1 A9 c9 B9 d9) hA3.own (kV.M_lower hA2.bas hM9.out)⟩
      case rest =>
        clear hA2 hnx
        go_upto_region 22 with (fail)
        go_cut [80] from 71 to 80 (fun x80 wx => (x80 = .bool true ∧ fin = none ∧ wx.heap[w.heap.size]? = some (.cells zeroA 48 (0, 0)) ∧ Below w.heap.size w wx) ∨ (x80 = .bool false ∧ ∃ (d' : Evn) (PA : Option Addr) (pc : Nat) (A : Option Addr) (lc : Nat) (B : Option Addr) (ld : Nat) (b2 : List UInt8), DecAt w s be (be + 2) (j + 1) d' PA pc A lc B ld b2 wx ∧ Aside0 (decP (ps.drop (j + 1)) d' b2 = fin) ∧ EvOK d' ∧ Aside0 (b2.length ≤ 140737488355328)))
        case first =>
          clear hless
          rcases hcut with ⟨hrn, hres1, b3, h3⟩ | ⟨d', PA', pc', A', lc', B', ld', b2, hrn, hA3⟩
          · have hfn0 := dec_none hc.out hfn.out hrn
            have hc1 := h3.cells.1
            have hlow := Aside0.mk h3.low
            replace hres1 := Aside0.mk hres1
            replace hfn0 := Aside0.mk hfn0
            clear h3 hfn hD0 hA
            go_wp2_with fail
            go_meet
            exact .inl ⟨rfl, hfn0.out, hres1.out, hlow.out⟩
          · have hM := may_any c d' wc _ hA3.evk (hP.out.env.facts.below hA3.low) (fun _ => by have h9 := readP_ok c hrn hb1l.out hok; exact ⟨h9.wt, h9.ints, h9.err, h9.cause⟩)
            rw [hcn.out] at hM
            unfold BoolIs evA at hM
            have hce := cellAll hA3.box
            have hc1 := hA3.rd.cells.1
            unfold evA at hce
            by_cases hm : mayP c d'
            · have hgo := Aside0.mk (dec_go hc.out hfn.out hrn hm)
              have hok2 := readP_ok c hrn hb1l.out hok
              have hl2 := Aside0.mk (Nat.le_trans (readP_len c hrn) hb1l.out)
              replace hrn := Aside0.mk hrn
              clear hfn hD0 hA
              go_wp2_with (go_at_call 46; refine hM.mono ?_; rintro en w4 ⟨bb, rfl, hbi, hb4⟩; have hbt : bb = true := hbi.2 hm; subst hbt; have hA4 := hA3.below hb4)
              go_meet
              exact .inr ⟨rfl, d', PA', pc', A', lc', B', ld', b2, hA4, hgo, hok2, hl2⟩
            · have hfn0 := Aside0.mk (dec_no hc.out hfn.out hrn hm)
              replace hrn := Aside0.mk hrn
              clear hfn hD0 hA
              go_wp2_with (go_at_call 46; refine hM.mono ?_; rintro en w4 ⟨bb, rfl, hbi, hb4⟩; have hbt : bb = false := (by cases bb with | false => rfl | true => exact absurd (hbi.1 rfl) hm); subst hbt; have hA4 := hA3.below hb4)
              go_meet
              exact .inl ⟨rfl, hfn0.out, hA4.res, hA4.low⟩
        case rest =>
          rcases hcut with ⟨rfl, hfn0, hres1, hlow⟩ | ⟨rfl, d', PA', pc', A', lc', B', ld', b2, hA4, hgo, hok2, hl2⟩
          · subst hfn0
            unfold zeroA at hres1
            have hcB := cellAll hres1
            have hfB := frozenAll hres1
            have hev := (hP.out.below hlow).cell
            replace hlow := Aside0.mk hlow
            replace hres1 := Aside0.mk hres1
            clear hless hfn hD0 hA
            go_wp2_with fail
            refine exit_23 a w wc _ (by kernel_rfl) hB00 hres1.out hev hlow.out ?_
            intro x y W' hres2 hlow2
            go_wp2_with fail
            exact dec_ret (cs := zeroA) (B := w.heap.size) (x := ev a) (by rfl) (by rfl) hres2 rfl (.inr ⟨rfl, rfl, hlow2⟩)
          · replace hfn := Aside0.mk hfn.out
            go_wp2_with fail
            go_roundw
            case rel => exact ⟨j + 1, d', PA', pc', A', lc', B', ld', b2, hA4, hlt, hgo, hok2, hl2⟩
            case measure => exact hless hA4
    · obtain rfl : j = ps.length := by omega
      have hnx : ∀ ty, (Instr.next (.pointer (some ⟨be + 1, 0, none⟩)) true ty).run Tryz.prog wr = _ := fun ty => Lib.run_next_end_at wr (be + 1) s ps.length ty hA.it (by rw [hsz.out]; omega)
      have hf2 : fin = some (d, b1) := by
        have h1 := hfn.out
        rw [List.drop_length] at h1
        rw [← h1]
        unfold decP
        rfl
      subst hf2
      clear hfn
      obtain ⟨rA, rc, hrb, hrR, hrc⟩ := hA.rd.blk
      have hcr := cellAll hrb
      replace hrb := Aside0.mk hrb
      cases b1 with
      | nil =>
        have hce := cellAll hA.box
        unfold evA at hce
        have hcB := cellAll hA.res
        have hfB := frozenAll hA.res
        unfold zeroA at hcB
        have hlow := Aside0.mk hA.low
        replace hA := Aside0.mk hA
        clear hrR
        go_wp2_with (first
          | ((with_reducible refine list_load (cs := evA d PA pc A lc B ld) (B := be) (.tmp 6) ?o0 ?o1 ?o2 ?o3 ?o4 ?_); (case o0 => rfl); (case o1 => rfl); (case o2 => rfl); (case o3 => exact hA.out.box); (case o4 => rfl))
          | ((with_reducible refine list_store (cs := evA d PA pc A lc B ld) (old := zeroA) (B := w.heap.size) (.tmp 2) (.tmp 91) ?o0 ?o1 ?o2 ?o3 ?o4 ?o5 ?o6 (evA_one _ _ _ _ _ _ _) ?_); (case o0 => rfl); (case o1 => rfl); (case o2 => rfl); (case o3 => rfl); (case o4 => exact hA.out.res); (case o5 => rfl); (case o6 => rfl)))
        exact dec_ret (cs := evA d PA pc A lc B ld) (B := w.heap.size) (x := .nilIface) (by rfl) (by rfl) (setRow_heap _ _ _ _ _ _ hA.out.res) rfl (.inl ⟨d, evA d PA pc A lc B ld, rfl, rfl, dec_end hA.out (read_row _ _ _), hok, low_row hlow.out (Nat.le_refl _)⟩)
      | cons q b9 =>
        have hres1 := hA.res
        unfold zeroA at hres1
        have hcB := cellAll hres1
        have hfB := frozenAll hres1
        have hlow := Aside0.mk hA.low
        have hev := (hP.out.below hlow.out).cell
        replace hres1 := Aside0.mk hres1
        have hql : (0 : Int) < ((q :: b9).length : Int) := by rw [List.length_cons]; omega
        generalize hqn : (q :: b9).length = qn at *
        clear hA hrR hqn
        go_wp2_with fail
        refine exit_25 a w wr _ (by kernel_rfl) hB00 hres1.out hev hlow.out ?_
        intro x y W' hres2 hlow2
        go_wp2_with fail
        exact dec_ret (cs := zeroA) (B := w.heap.size) (x := ev a) (by rfl) (by rfl) hres2 rfl (.inr ⟨rfl, rfl, hlow2⟩)
end Go.Proofs.YtkdeleafgailhaaGreatDoor
end
