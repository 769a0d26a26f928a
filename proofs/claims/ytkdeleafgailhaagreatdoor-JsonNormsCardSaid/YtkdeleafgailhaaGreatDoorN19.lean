/- json's reader: value: numbers, lists. json's reader: value: the words null, true, false; what is none. json's reader: value: objects; value at every depth. json's reader: value: objects. json's reader: value, at every depth. -/
import Derived.Test.YtkdeleafgailhaaGreatDoorN18
section
set_option linter.unusedVariables false
set_option linter.unusedSimpArgs false
namespace Go.Proofs.YtkdeleafgailhaaGreatDoor
open Go Go.RowKit Go.Proofs.YtkdeleafgailhaaGreatDoorW.PrintWords

set_option maxRecDepth 100000 in
set_option maxHeartbeats 4000000 in
theorem val_num {E : ErrV} {w0 : World} {s : ByteArray} {i o r : Nat} {w : World} (h : RS E w0 s i o r w) (hnum : byteAt s i = 45 ∨ (48 ≤ byteAt s i ∧ byteAt s i ≤ 57)) :
    Calls Tryz.prog 58 #[.pointer (some ⟨r, 0, none⟩)] w fun e w' => ValGives E w0 s o r w (numberAt s i) e w' := by
  obtain ⟨hV0, hR0⟩ := VW.start h
  have hle := h.le
  have hc0 := cellAll hV0.rb
  have b1 : ((byteAt s i : Int) == 91) = false := by simp; omega
  have b2 : ((byteAt s i : Int) == 123) = false := by simp; omega
  have b3 : ((byteAt s i : Int) == 34) = false := by simp; omega
  have cN := next_s hR0
  have cT := fun (W1 : World) (hW1 : RS E w0 s i o r W1) => number_any hW1
  generalize numberAt s i = res at *
  replace hV0 := Aside0.mk hV0
  have fin : ∀ (w1 w2 : World) (x : JV) (v : Value) (Al : Option Addr) (cl : Nat) (Af : Option Addr) (cf : Nat), VW E w0 s r w w1 → Read r w1 w2 → kV.M w2 w1.heap.size (fun _ => True) x [.int .i64 x.kind, .bool x.truth, .bool x.neg, .string x.digits, .int .i64 x.exp, .string x.text, .slice Al x.list.length cl, .slice Af x.fields.length cf] → VGot E w0 s o r x v w2 res →
      ValGives E w0 s o r w res (.returned (.tuple #[.agg #[.int .i64 x.kind, .bool x.truth, .bool x.neg, .string x.digits, .int .i64 x.exp, .string x.text, .slice Al x.list.length cl, .slice Af x.fields.length cf], v])) (w2.setCells (w.heap.size + 1) 0 [.int .i64 x.kind, .bool x.truth, .bool x.neg, .string x.digits, .int .i64 x.exp, .string x.text, .slice Al x.list.length cl, .slice Af x.fields.length cf]) := by
    intro w1 w2 x v Al cl Af cf hV1 hW2 hM hG
    have hl := blk_lt hV1.out
    exact val_end (hV1.read hW2) hle (kV.M_lower (by omega) hM) hG
  have go : ∀ (hb : (((byteAt s i : Int) == 45) = true) ∨ (((byteAt s i : Int) == 45) = false ∧ (48 : Int) ≤ (byteAt s i : Int) ∧ (byteAt s i : Int) ≤ 57)), Calls Tryz.prog 58 #[.pointer (some ⟨r, 0, none⟩)] w fun e w' => ValGives E w0 s o r w res e w' := by
    rintro (hb | ⟨hb, hb1, hb2⟩)
    all_goals clear hnum
    all_goals go_enter Tryz.func58, Tryz.ntmps58
    all_goals go_wp2_with (first
      | (go_at_call 87; refine (cT _ hR1).mono ?_; rintro e w2 ⟨x, cs, v, rfl, hM, hG, hW2⟩; obtain ⟨l, f, rfl, hRl, hRf⟩ := kV_openM hM; obtain ⟨Al, cl, rfl⟩ := Kd.R_slice hRl; obtain ⟨Af, cf, rfl⟩ := Kd.R_slice hRf; clear hRl hRf; unfold JV.cells at hM ⊢; replace hM := Aside0.mk hM; replace hG := Aside0.mk hG; have hV2 := hV1.out.read hW2; have hc2 := cellAll hV2.out; have hf2 := frozenAll hV2.out; replace hV2 := Aside0.mk hV2)
      | (go_at_call 81; refine cN.mono ?_; rintro e w1 ⟨rfl, hR1, hb1⟩; have hV1 := hV0.out.read (Read.of_below hb1); have hc1 := cellAll hV1.rb; replace hV1 := Aside0.mk hV1))
    all_goals exact bodyPost_ret (v := .tuple #[.agg #[.int .i64 x.kind, .bool x.truth, .bool x.neg, .string x.digits, .int .i64 x.exp, .string x.text, .slice Al x.list.length cl, .slice Af x.fields.length cf], v]) (by simp [results, Tryz.results58, go_sem, hc2]) rfl (fin w1 w2 x v Al cl Af cf hV1.out hW2 hM.out hG.out)
  apply go
  rcases hnum with hnum | ⟨h1, h2⟩
  · exact .inl (by simp; omega)
  · exact .inr ⟨by simp; omega, by omega, by omega⟩

/-! ### lists -/
def itemL (val : Nat → PR JV) (j : Nat) (xs : List JV) : PR (List JV) := match val j with
  | .ok x k => .ok (xs ++ [x]) k
  | .no k e => .no k e
def listOf : PR (List JV) → PR JV
  | .ok xs j => .ok (.mk 4 false false ⟨#[]⟩ 0 ⟨#[]⟩ xs []) j
  | .no j k => .no j k
def LSt (E : ErrV) (w0 : World) (s : ByteArray) (o r : Nat) (w : World) (vb : Nat) (j : Nat) (xs : List JV) (W : World) : Prop := LB r w vb xs W ∧ RS E w0 s j (o + 1) r W ∧ xs.length ≤ j
theorem LSt.ok {E : ErrV} {w0 : World} {s : ByteArray} {o r : Nat} {w : World} {vb : Nat} : SevOK E w0 s o r (LSt E w0 s o r w vb) (fun W => ∃ xs, LB r w vb xs W) :=
  ⟨fun i x W h => h.2.1, fun i i' x W W' hi h hR hr => ⟨h.1.read hr, hR, by have := h.2.2; omega⟩, fun i x W W' h hr => ⟨x, h.1.read hr⟩⟩
theorem item_list {E : ErrV} {w0 : World} {s : ByteArray} {o r : Nat} {w : World} {vb : Nat} (val : Nat → PR JV) (hV : ValOK E w0 s r (o + 1) val) (hadv : ∀ i x j, val i = .ok x j → i < j) (hw0 : w0.heap.size ≤ r) (j : Nat) (xs : List JV) (W : World) (h : LSt E w0 s o r w vb j xs W) :
    Calls Tryz.prog 83 #[.pointer (some ⟨w.heap.size, 0, none⟩), .pointer (some ⟨vb, 0, none⟩)] W fun e w' => EachGives E w0 s r (LSt E w0 s o r w vb) (fun W => ∃ xs, LB r w vb xs W) j e w' (itemL val j xs) := by
  obtain ⟨h1, h2, h3⟩ := h
  have hsz := h2.size
  have hjl := h2.at_le
  refine (each_list val hV h1 h2 hw0 (by omega)).mono ?_
  rintro e w' ⟨x, v, rfl, hL, hG⟩
  unfold itemL
  cases hval : val j with
  | ok y k =>
    rw [hval] at hG
    obtain ⟨rfl, rfl, hR⟩ := hG
    have := hadv _ _ _ hval
    exact ⟨rfl, ⟨hL, hR, by rw [List.length_append]; show xs.length + 1 ≤ k; omega⟩, this⟩
  | no k e =>
    rw [hval] at hG
    exact ⟨v, rfl, hG.1, ⟨_, hL⟩, hG.2⟩

set_option maxRecDepth 100000 in
set_option maxHeartbeats 4000000 in
theorem val_list {E : ErrV} {w0 : World} {s : ByteArray} {i o r : Nat} {w : World} (h : RS E w0 s i o r w) (h91 : byteAt s i = 91) (ho : o ≤ 64) (val : Nat → PR JV) (hV : o ≠ 64 → ValOK E w0 s r (o + 1) val) (hadv : ∀ i x j, val i = .ok x j → i < j) :
    Calls Tryz.prog 58 #[.pointer (some ⟨r, 0, none⟩)] w fun e w' => ValGives E w0 s o r w (listOf (if o = 64 then .no i .deep else sevAt s 93 (itemL val) i [])) e w' := by
  obtain ⟨hV0, hR0⟩ := VW.start h
  have hle := h.le
  have hlr := h.rd.lt
  have hc0 := cellAll hV0.rb
  have b1 : ((byteAt s i : Int) == 91) = true := by simp; omega
  have his : i < s.size := byteAt_in (by omega)
  have cN := next_s hR0
  have cS := fun (W1 : World) (hW1 : RS E w0 s i o r W1) (vb : Nat) (hL : LB r w vb [] W1) => several_1 hW1 his ho 93 (by omega) (by omega) (LSt E w0 s o r w vb) (fun W => ∃ xs, LB r w vb xs W) (itemL val) [] (.pointer (some ⟨w.heap.size, 0, none⟩)) (.pointer (some ⟨vb, 0, none⟩)) LSt.ok
    (fun hne j y W hS => item_list val (hV hne) hadv hle j y W hS) (fun i' W' hR hr => ⟨hL.read hr, hR, Nat.zero_le _⟩) (fun W' hr => ⟨[], hL.read hr⟩)
  generalize (if o = 64 then (PR.no i PE.deep : PR (List JV)) else sevAt s 93 (itemL val) i []) = sv at *
  replace hV0 := Aside0.mk hV0
  clear h91 hV hadv
  have hzero : ∀ w1, VW E w0 s r w w1 → LB r w w1.heap.size [] (w1.alloc (.cells #[.int .i64 4, .bool false, .bool false, .string ⟨#[]⟩, .int .i64 0, .string ⟨#[]⟩, .slice none 0 0, .slice none 0 0] 27)) := by
    intro w1 hV1
    have hb := (Below.refl w1.heap.size w1).alloc (Nat.le_refl _) (.cells #[.int .i64 4, .bool false, .bool false, .string ⟨#[]⟩, .int .i64 0, .string ⟨#[]⟩, .slice none 0 0, .slice none 0 0] 27)
    have hV2 := hV1.read (Read.of_below hb)
    have hl := blk_lt hV1.out
    exact ⟨hV2.rb, hV2.out, ⟨.slice none 0 0, heap_alloc_new w1 _, R_nilV _ _ _⟩, hV2.rd, by omega, hV1.lr⟩
  cases sv with
  | ok xs j =>
    simp only [SevGives] at cS
    unfold listOf
    go_enter Tryz.func58, Tryz.ntmps58
    go_wp2_with (first
      | (go_at_call 82; refine (cS _ hR2.out w1.heap.size hL2.out).mono ?_; rintro e w3 ⟨rfl, hR3, W, k, hS, hW3⟩; have hL3 := hS.1.read hW3; have hlv := hL3.lv; obtain ⟨va, hva, hRv⟩ := hL3.blk; obtain ⟨A3, c3, rfl⟩ := Kd.R_slice hRv; have hcv := cellAll hva; unfold lCells at hcv; have hco := cellAll hL3.out; have hfo := frozenAll hL3.out; unfold nulCells at hco; replace hRv := Aside0.mk hRv; replace hL3 := Aside0.mk hL3)
      | (go_at_call 81; refine cN.mono ?_; rintro e w1 ⟨rfl, hR1, hb1⟩; have hV1 := hV0.out.read (Read.of_below hb1); have hL2 := Aside0.mk (hzero w1 hV1); have hR2 := Aside0.mk (hR1.below ((Below.refl w1.heap.size w1).alloc (Nat.le_refl _) (.cells #[.int .i64 4, .bool false, .bool false, .string ⟨#[]⟩, .int .i64 0, .string ⟨#[]⟩, .slice none 0 0, .slice none 0 0] 27))); have hc1 := cellAll hL2.out.rb; replace hV1 := Aside0.mk hV1))
    exact bodyPost_ret (v := .tuple #[.agg #[.int .i64 4, .bool false, .bool false, .string ⟨#[]⟩, .int .i64 0, .string ⟨#[]⟩, .slice A3 xs.length c3, .slice none 0 0], .nilIface]) (by simp [results, Tryz.results58, go_sem, hco]) rfl (val_end (res := .ok (.mk 4 false false ⟨#[]⟩ 0 ⟨#[]⟩ xs []) j) ⟨hL3.out.rb, hL3.out.out, hL3.out.rd, hL3.out.lr⟩ hle (kV_mkM (x := .mk 4 false false ⟨#[]⟩ 0 ⟨#[]⟩ xs []) (Kd.R_lower hRv.out (by omega)) (R_nilF _ _ _)) ⟨rfl, rfl, hR3⟩)
  | no j k =>
    simp only [SevGives] at cS
    unfold listOf
    go_enter Tryz.func58, Tryz.ntmps58
    go_wp2_with (first
      | (go_at_call 82; refine (cS _ hR2.out w1.heap.size hL2.out).mono ?_; rintro e w3 ⟨v, rfl, ⟨kk, rfl, hk⟩, ⟨xs, hL3⟩, j', o', hR3⟩; replace hk := Aside0.mk hk; have hlv := hL3.lv; obtain ⟨va, hva, hRv⟩ := hL3.blk; obtain ⟨A3, c3, rfl⟩ := Kd.R_slice hRv; have hcv := cellAll hva; unfold lCells at hcv; have hco := cellAll hL3.out; have hfo := frozenAll hL3.out; unfold nulCells at hco; replace hRv := Aside0.mk hRv; replace hL3 := Aside0.mk hL3)
      | (go_at_call 81; refine cN.mono ?_; rintro e w1 ⟨rfl, hR1, hb1⟩; have hV1 := hV0.out.read (Read.of_below hb1); have hL2 := Aside0.mk (hzero w1 hV1); have hR2 := Aside0.mk (hR1.below ((Below.refl w1.heap.size w1).alloc (Nat.le_refl _) (.cells #[.int .i64 4, .bool false, .bool false, .string ⟨#[]⟩, .int .i64 0, .string ⟨#[]⟩, .slice none 0 0, .slice none 0 0] 27))); have hc1 := cellAll hL2.out.rb; replace hV1 := Aside0.mk hV1))
    exact bodyPost_ret (v := .tuple #[.agg #[.int .i64 4, .bool false, .bool false, .string ⟨#[]⟩, .int .i64 0, .string ⟨#[]⟩, .slice A3 xs.length c3, .slice none 0 0], .iface 94 (.pointer (some ⟨kk, 0, none⟩))]) (by simp [results, Tryz.results58, go_sem, hco]) rfl (val_end (res := .no j k) ⟨hL3.out.rb, hL3.out.out, hL3.out.rd, hL3.out.lr⟩ hle (kV_mkM (x := .mk 4 false false ⟨#[]⟩ 0 ⟨#[]⟩ xs []) (Kd.R_lower hRv.out (by omega)) (R_nilF _ _ _)) ⟨⟨kk, rfl, hk.out⟩, j', o', hR3⟩)
end Go.Proofs.YtkdeleafgailhaaGreatDoor
end
section
set_option linter.unusedVariables false
set_option linter.unusedSimpArgs false
namespace Go.Proofs.YtkdeleafgailhaaGreatDoor
open Go Go.RowKit Go.Proofs.YtkdeleafgailhaaGreatDoorW.PrintWords

theorem pre_len {s : ByteArray} {i : Nat} {p : List UInt8} (hi : i ≤ s.size) (h : preAt s i p = true) : i + p.length ≤ s.size := by
  unfold preAt Lib.hasPrefix at h
  have h1 := (List.isPrefixOf_iff_prefix.1 h).length_le
  have h2 : (s.extract i s.size).data.toList.length = s.size - i := by
    rw [Array.length_toList]
    show (s.extract i s.size).size = _
    rw [ByteArray.size_extract]; omega
  omega

/-- The words' row, beside the frame. -/
structure LW (E : ErrV) (w0 : World) (s : ByteArray) (i o r : Nat) (w : World) (lb : Nat) (W : World) : Prop where
  rs : RS E w0 s i o r W
  vw : VW E w0 s r w W
  row : W.heap[lb]? = some (.cells #[.string ⟨#[110, 117, 108, 108]⟩, .string ⟨#[116, 114, 117, 101]⟩, .string ⟨#[102, 97, 108, 115, 101]⟩] 9 (0, 0))
theorem LW.below {E : ErrV} {w0 : World} {s : ByteArray} {i o r : Nat} {w : World} {lb : Nat} {W W' : World} (h : LW E w0 s i o r w lb W) (hb : Below W.heap.size W W') : LW E w0 s i o r w lb W' :=
  ⟨h.rs.below hb, h.vw.read (Read.of_below hb), (hb.block _ (blk_lt h.row)).trans h.row⟩

set_option maxRecDepth 100000 in
set_option maxHeartbeats 8000000 in
theorem val_lit {E : ErrV} {w0 : World} {s : ByteArray} {i o r : Nat} {w : World} (h : RS E w0 s i o r w) (h1 : byteAt s i ≠ 91) (h2 : byteAt s i ≠ 123) (h3 : byteAt s i ≠ 34) (h4 : byteAt s i ≠ 45) (h5 : ¬ (48 ≤ byteAt s i ∧ byteAt s i ≤ 57)) :
    Calls Tryz.prog 58 #[.pointer (some ⟨r, 0, none⟩)] w fun e w' => ValGives E w0 s o r w (litAt s i) e w' := by
  obtain ⟨hV0, hR0⟩ := VW.start h
  have hle := h.le
  have hlr := h.rd.lt
  have hsz := h.size
  have hil := h.at_le
  have hc0 := cellAll hV0.rb
  have b1 : ((byteAt s i : Int) == 91) = false := by simp; omega
  have b2 : ((byteAt s i : Int) == 123) = false := by simp; omega
  have b3 : ((byteAt s i : Int) == 34) = false := by simp; omega
  have b4 : ((byteAt s i : Int) == 45) = false := by simp; omega
  have cN := next_s hR0
  have cP := fun (p : ByteArray) (W : World) => Tryz.strings_HasPrefix (s.extract i s.size) p W
  have hn := fun h => pre_len (p := [110, 117, 108, 108]) hil h
  have ht := fun h => pre_len (p := [116, 114, 117, 101]) hil h
  have hf := fun h => pre_len (p := [102, 97, 108, 115, 101]) hil h
  have cPn : ∀ W, Calls Tryz.prog 88 #[.string (s.extract i s.size), .string ⟨#[110, 117, 108, 108]⟩] W fun e w' => e = .returned (.bool (preAt s i [110, 117, 108, 108])) ∧ ∃ n, w' = W.drewN n := fun W => (cP _ W).mono (fun e w' h => ⟨h.1, 0, h.2⟩)
  have cPt : ∀ W, Calls Tryz.prog 88 #[.string (s.extract i s.size), .string ⟨#[116, 114, 117, 101]⟩] W fun e w' => e = .returned (.bool (preAt s i [116, 114, 117, 101])) ∧ ∃ n, w' = W.drewN n := fun W => (cP _ W).mono (fun e w' h => ⟨h.1, 0, h.2⟩)
  have cPf : ∀ W, Calls Tryz.prog 88 #[.string (s.extract i s.size), .string ⟨#[102, 97, 108, 115, 101]⟩] W fun e w' => e = .returned (.bool (preAt s i [102, 97, 108, 115, 101])) ∧ ∃ n, w' = W.drewN n := fun W => (cP _ W).mono (fun e w' h => ⟨h.1, 0, h.2⟩)
  clear cP
  unfold litAt
  generalize preAt s i [110, 117, 108, 108] = pn at *
  generalize preAt s i [116, 114, 117, 101] = pt at *
  generalize preAt s i [102, 97, 108, 115, 101] = pf at *
  have e1 : (([110, 117, 108, 108] : List UInt8) == [110, 117, 108, 108]) = true := by decide
  have e2 : (([116, 114, 117, 101] : List UInt8) == [110, 117, 108, 108]) = false := by decide
  have e3 : (([102, 97, 108, 115, 101] : List UInt8) == [110, 117, 108, 108]) = false := by decide
  have e4 : (([116, 114, 117, 101] : List UInt8) == [116, 114, 117, 101]) = true := by decide
  have e5 : (([102, 97, 108, 115, 101] : List UInt8) == [116, 114, 117, 101]) = false := by decide
  replace hV0 := Aside0.mk hV0
  have go : ∀ (hb : ¬ ((48 : Int) ≤ (byteAt s i : Int)) ∨ (((48 : Int) ≤ (byteAt s i : Int)) ∧ ¬ ((byteAt s i : Int) ≤ 57))), Calls Tryz.prog 58 #[.pointer (some ⟨r, 0, none⟩)] w fun e w' => ValGives E w0 s o r w (if pn = true then .ok JV.nul (i + 4) else if pt = true then .ok (.mk 1 true false ⟨#[]⟩ 0 ⟨#[]⟩ [] []) (i + 4) else if pf = true then .ok (.mk 1 false false ⟨#[]⟩ 0 ⟨#[]⟩ [] []) (i + 5) else .no i .due) e w' := by
    rintro (hb | ⟨hb, hb2⟩)
    all_goals clear h1 h2 h3 h4 h5
    · go_enter Tryz.func58, Tryz.ntmps58
      go_wp2_with (go_at_call 81; refine cN.mono ?_; rintro e w1 ⟨rfl, hR1, hb1⟩; have hV1 := hV0.out.read (Read.of_below hb1); have hc1 := cellAll hV1.rb; replace hV1 := Aside0.mk hV1)
      go_loopw [61] (fun x wr => ∃ j : Nat, x = .int .i64 j ∧ j ≤ 3 ∧ LW E w0 s i o r w w1.heap.size wr ∧ Aside0 ((0 < j → pn = false) ∧ (1 < j → pt = false) ∧ (2 < j → pf = false))) (fun x wr => 3 - (intOf x).toNat)
      case atStart => exact ⟨0, rfl, by omega, ⟨hR1.below ((Below.refl _ w1).alloc (Nat.le_refl _) (.cells #[.string ⟨#[110, 117, 108, 108]⟩, .string ⟨#[116, 114, 117, 101]⟩, .string ⟨#[102, 97, 108, 115, 101]⟩] 9)), hV1.out.read (Read.of_below ((Below.refl _ w1).alloc (Nat.le_refl _) (.cells #[.string ⟨#[110, 117, 108, 108]⟩, .string ⟨#[116, 114, 117, 101]⟩, .string ⟨#[102, 97, 108, 115, 101]⟩] 9))), heap_alloc_new w1 _⟩, ⟨fun h => by omega, fun h => by omega, fun h => by omega⟩⟩
      case round =>
        obtain ⟨j, rfl, hj, hL, hno⟩ := hrel
        have hc2 := cellAll hL.rs.rd
        have hf2 := frozenAll hL.rs.rd
        have hcb := cellAll hL.vw.rb
        have hcw := cellAll hL.row
        have hi0 : (0 : Int) ≤ (i : Int) := by omega
        have hi1 : (i : Int) ≤ (s.size : Int) := by omega
        have hj4 : j = 0 ∨ j = 1 ∨ j = 2 ∨ j = 3 := by omega
        clear hj
        rcases hj4 with rfl | rfl | rfl | rfl
        · -- pn
          cases pn with
          | true =>
            go_wp2_with fail
            go_quiet ((go_at_call 88; exact Calls.quiet_of (cPn _)))
            have hbn := pw_below_drewN (Below.refl wr.heap.size wr) nq
            have hL3 := hL.below hbn
            generalize wr.drewN nq = w3 at *
            clear nq hc2 hf2 hcb hcw
            have hc3 := cellAll hL3.rs.rd
            have hf3 := frozenAll hL3.rs.rd
            have hcb3 := cellAll hL3.vw.rb
            have hsz4 : i + 4 ≤ s.size := hn (by first | rfl | trivial)
            have e4 : (((i + 4 : Nat) : Int)) = (i : Int) + 4 := by omega
            have hR6 := hL3.rs.read (hL3.rs.rd.at_ (i + 4)) ((Read.refl r w3).set_ 1 _) hsz4
            have hV6 := hL3.vw.read ((Read.refl r w3).set_ 1 (.int .i64 ((i + 4 : Nat) : Int)))
            rw [e4] at hR6 hV6
            have hco := cellAll hV6.out
            have hfo := frozenAll hV6.out
            replace hR6 := Aside0.mk hR6
            replace hV6 := Aside0.mk hV6
            go_wp2_with fail
            exact bodyPost_ret (v := .tuple #[.agg #[.int .i64 0, .bool false, .bool false, .string ⟨#[]⟩, .int .i64 0, .string ⟨#[]⟩, .slice none 0 0, .slice none 0 0], .nilIface]) (by simp [results, Tryz.results58, go_sem, hco]) rfl (val_end (res := .ok (JV.nul) (i + 4)) hV6.out hle (kV_mkM (x := JV.nul) (R_nilV _ _ _) (R_nilF _ _ _)) ⟨rfl, rfl, hR6.out⟩)
          | false =>
            go_wp2_with fail
            go_quiet ((go_at_call 88; exact Calls.quiet_of (cPn _)))
            have hbn := pw_below_drewN (Below.refl wr.heap.size wr) nq
            have hL3 := hL.below hbn
            generalize wr.drewN nq = w3 at *
            clear nq hc2 hf2 hcb hcw
            have hc3 := cellAll hL3.rs.rd
            have hf3 := frozenAll hL3.rs.rd
            have hcb3 := cellAll hL3.vw.rb
            go_wp2_with fail
            go_roundw
            case rel => exact ⟨1, rfl, by omega, hL3, ⟨fun _ => (by first | rfl | trivial), fun h => by omega, fun h => by omega⟩⟩
            case measure => simp [intOf]
        · -- pt
          have z0 : pn = false := hno.out.1 (by omega)
          subst z0
          cases pt with
          | true =>
            go_wp2_with fail
            go_quiet ((go_at_call 88; exact Calls.quiet_of (cPt _)))
            have hbn := pw_below_drewN (Below.refl wr.heap.size wr) nq
            have hL3 := hL.below hbn
            generalize wr.drewN nq = w3 at *
            clear nq hc2 hf2 hcb hcw
            have hc3 := cellAll hL3.rs.rd
            have hf3 := frozenAll hL3.rs.rd
            have hcb3 := cellAll hL3.vw.rb
            have hsz4 : i + 4 ≤ s.size := ht (by first | rfl | trivial)
            have e4 : (((i + 4 : Nat) : Int)) = (i : Int) + 4 := by omega
            have hR6 := hL3.rs.read (hL3.rs.rd.at_ (i + 4)) ((Read.refl r w3).set_ 1 _) hsz4
            have hV6 := hL3.vw.read ((Read.refl r w3).set_ 1 (.int .i64 ((i + 4 : Nat) : Int)))
            rw [e4] at hR6 hV6
            have hco := cellAll hV6.out
            have hfo := frozenAll hV6.out
            replace hR6 := Aside0.mk hR6
            replace hV6 := Aside0.mk hV6
            go_wp2_with fail
            exact bodyPost_ret (v := .tuple #[.agg #[.int .i64 1, .bool true, .bool false, .string ⟨#[]⟩, .int .i64 0, .string ⟨#[]⟩, .slice none 0 0, .slice none 0 0], .nilIface]) (by simp [results, Tryz.results58, go_sem, hco]) rfl (val_end (res := .ok (.mk 1 true false ⟨#[]⟩ 0 ⟨#[]⟩ [] []) (i + 4)) hV6.out hle (kV_mkM (x := .mk 1 true false ⟨#[]⟩ 0 ⟨#[]⟩ [] []) (R_nilV _ _ _) (R_nilF _ _ _)) ⟨rfl, rfl, hR6.out⟩)
          | false =>
            go_wp2_with fail
            go_quiet ((go_at_call 88; exact Calls.quiet_of (cPt _)))
            have hbn := pw_below_drewN (Below.refl wr.heap.size wr) nq
            have hL3 := hL.below hbn
            generalize wr.drewN nq = w3 at *
            clear nq hc2 hf2 hcb hcw
            have hc3 := cellAll hL3.rs.rd
            have hf3 := frozenAll hL3.rs.rd
            have hcb3 := cellAll hL3.vw.rb
            go_wp2_with fail
            go_roundw
            case rel => exact ⟨2, rfl, by omega, hL3, ⟨fun _ => (by first | rfl | trivial), fun _ => (by first | rfl | trivial), fun h => by omega⟩⟩
            case measure => simp [intOf]
        · -- pf
          have z0 : pn = false := hno.out.1 (by omega)
          have z1 : pt = false := hno.out.2.1 (by omega)
          subst z0
          subst z1
          cases pf with
          | true =>
            go_wp2_with fail
            go_quiet ((go_at_call 88; exact Calls.quiet_of (cPf _)))
            have hbn := pw_below_drewN (Below.refl wr.heap.size wr) nq
            have hL3 := hL.below hbn
            generalize wr.drewN nq = w3 at *
            clear nq hc2 hf2 hcb hcw
            have hc3 := cellAll hL3.rs.rd
            have hf3 := frozenAll hL3.rs.rd
            have hcb3 := cellAll hL3.vw.rb
            have hsz4 : i + 5 ≤ s.size := hf (by first | rfl | trivial)
            have e4 : (((i + 5 : Nat) : Int)) = (i : Int) + 5 := by omega
            have hR6 := hL3.rs.read (hL3.rs.rd.at_ (i + 5)) ((Read.refl r w3).set_ 1 _) hsz4
            have hV6 := hL3.vw.read ((Read.refl r w3).set_ 1 (.int .i64 ((i + 5 : Nat) : Int)))
            rw [e4] at hR6 hV6
            have hco := cellAll hV6.out
            have hfo := frozenAll hV6.out
            replace hR6 := Aside0.mk hR6
            replace hV6 := Aside0.mk hV6
            go_wp2_with fail
            exact bodyPost_ret (v := .tuple #[.agg #[.int .i64 1, .bool false, .bool false, .string ⟨#[]⟩, .int .i64 0, .string ⟨#[]⟩, .slice none 0 0, .slice none 0 0], .nilIface]) (by simp [results, Tryz.results58, go_sem, hco]) rfl (val_end (res := .ok (.mk 1 false false ⟨#[]⟩ 0 ⟨#[]⟩ [] []) (i + 5)) hV6.out hle (kV_mkM (x := .mk 1 false false ⟨#[]⟩ 0 ⟨#[]⟩ [] []) (R_nilV _ _ _) (R_nilF _ _ _)) ⟨rfl, rfl, hR6.out⟩)
          | false =>
            go_wp2_with fail
            go_quiet ((go_at_call 88; exact Calls.quiet_of (cPf _)))
            have hbn := pw_below_drewN (Below.refl wr.heap.size wr) nq
            have hL3 := hL.below hbn
            generalize wr.drewN nq = w3 at *
            clear nq hc2 hf2 hcb hcw
            have hc3 := cellAll hL3.rs.rd
            have hf3 := frozenAll hL3.rs.rd
            have hcb3 := cellAll hL3.vw.rb
            go_wp2_with fail
            go_roundw
            case rel => exact ⟨3, rfl, by omega, hL3, ⟨fun _ => (by first | rfl | trivial), fun _ => (by first | rfl | trivial), fun _ => (by first | rfl | trivial)⟩⟩
            case measure => simp [intOf]
        · -- none
          have z0 : pn = false := hno.out.1 (by omega)
          have z1 : pt = false := hno.out.2.1 (by omega)
          have z2 : pf = false := hno.out.2.2 (by omega)
          subst z0 z1 z2
          have hd2 := hL.rs.er.due_cell
          have hco := cellAll hL.vw.out
          have hfo := frozenAll hL.vw.out
          go_wp2_with fail
          have hne0 : w.heap.size + 1 ≠ w.heap.size := by omega
          have hne1 : w.heap.size + 1 ≠ r := by omega
          have hne2 : w.heap.size + 1 ≠ 1 := by have := World.block_lt_of_cell? _ _ h.er.due_cell; have h9 : 1 < w.heap.size := this; omega
          have hne3 : w.heap.size ≠ 0 := by have := World.block_lt_of_cell? _ _ h.er.due_cell; have h9 : 1 < w.heap.size := this; omega
          go_region_held3 (fun w' => w'.cell? ⟨w.heap.size, 0, none⟩ = some (.pointer (some ⟨r, 0, none⟩)) ∧ w'.cell? ⟨r, 1, none⟩ = some (.int .i64 i) ∧ w'.cell? ⟨1, 0, none⟩ = some (.iface 228 (.pointer (some E.due))))
            (first | (simp; done) | (simp [*]; done) | go_keep)
            (first | (go_at_call 56; refine (fail_any _ _ _ _).mono ?_; rintro e w9 ⟨v, rfl, ⟨kk, rfl, hk⟩, hb9⟩; replace hk := Aside0.mk hk; have hb10 : Below wr.heap.size wr w9 := ⟨hb9.os, hb9.tape, hb9.output, hb9.size, hb9.block⟩; have hL9 := hL.below hb10; have hc9 := cellAll hL9.rs.rd; have hd9 := hL9.rs.er.due_cell; have hcb9 := cellAll hL9.vw.rb; have hco9 := cellAll hL9.vw.out; have hfo9 := frozenAll hL9.vw.out))
          all_goals (go_wp2_with fail)
          exact bodyPost_ret (v := .tuple #[.agg #[.int .i64 0, .bool false, .bool false, .string ⟨#[]⟩, .int .i64 0, .string ⟨#[]⟩, .slice none 0 0, .slice none 0 0], .iface 94 (.pointer (some ⟨kk, 0, none⟩))]) (by simp [results, Tryz.results58, go_sem, hco9]) rfl (val_end (res := .no i .due) hL9.vw hle (M_nul _ _) ⟨⟨kk, rfl, hk.out⟩, i, o, hL9.rs⟩)
    · go_enter Tryz.func58, Tryz.ntmps58
      go_wp2_with (go_at_call 81; refine cN.mono ?_; rintro e w1 ⟨rfl, hR1, hb1⟩; have hV1 := hV0.out.read (Read.of_below hb1); have hc1 := cellAll hV1.rb; replace hV1 := Aside0.mk hV1)
      go_loopw [61] (fun x wr => ∃ j : Nat, x = .int .i64 j ∧ j ≤ 3 ∧ LW E w0 s i o r w w1.heap.size wr ∧ Aside0 ((0 < j → pn = false) ∧ (1 < j → pt = false) ∧ (2 < j → pf = false))) (fun x wr => 3 - (intOf x).toNat)
      case atStart => exact ⟨0, rfl, by omega, ⟨hR1.below ((Below.refl _ w1).alloc (Nat.le_refl _) (.cells #[.string ⟨#[110, 117, 108, 108]⟩, .string ⟨#[116, 114, 117, 101]⟩, .string ⟨#[102, 97, 108, 115, 101]⟩] 9)), hV1.out.read (Read.of_below ((Below.refl _ w1).alloc (Nat.le_refl _) (.cells #[.string ⟨#[110, 117, 108, 108]⟩, .string ⟨#[116, 114, 117, 101]⟩, .string ⟨#[102, 97, 108, 115, 101]⟩] 9))), heap_alloc_new w1 _⟩, ⟨fun h => by omega, fun h => by omega, fun h => by omega⟩⟩
      case round =>
        obtain ⟨j, rfl, hj, hL, hno⟩ := hrel
        have hc2 := cellAll hL.rs.rd
        have hf2 := frozenAll hL.rs.rd
        have hcb := cellAll hL.vw.rb
        have hcw := cellAll hL.row
        have hi0 : (0 : Int) ≤ (i : Int) := by omega
        have hi1 : (i : Int) ≤ (s.size : Int) := by omega
        have hj4 : j = 0 ∨ j = 1 ∨ j = 2 ∨ j = 3 := by omega
        clear hj
        rcases hj4 with rfl | rfl | rfl | rfl
        · -- pn
          cases pn with
          | true =>
            go_wp2_with fail
            go_quiet ((go_at_call 88; exact Calls.quiet_of (cPn _)))
            have hbn := pw_below_drewN (Below.refl wr.heap.size wr) nq
            have hL3 := hL.below hbn
            generalize wr.drewN nq = w3 at *
            clear nq hc2 hf2 hcb hcw
            have hc3 := cellAll hL3.rs.rd
            have hf3 := frozenAll hL3.rs.rd
            have hcb3 := cellAll hL3.vw.rb
            have hsz4 : i + 4 ≤ s.size := hn (by first | rfl | trivial)
            have e4 : (((i + 4 : Nat) : Int)) = (i : Int) + 4 := by omega
            have hR6 := hL3.rs.read (hL3.rs.rd.at_ (i + 4)) ((Read.refl r w3).set_ 1 _) hsz4
            have hV6 := hL3.vw.read ((Read.refl r w3).set_ 1 (.int .i64 ((i + 4 : Nat) : Int)))
            rw [e4] at hR6 hV6
            have hco := cellAll hV6.out
            have hfo := frozenAll hV6.out
            replace hR6 := Aside0.mk hR6
            replace hV6 := Aside0.mk hV6
            go_wp2_with fail
            exact bodyPost_ret (v := .tuple #[.agg #[.int .i64 0, .bool false, .bool false, .string ⟨#[]⟩, .int .i64 0, .string ⟨#[]⟩, .slice none 0 0, .slice none 0 0], .nilIface]) (by simp [results, Tryz.results58, go_sem, hco]) rfl (val_end (res := .ok (JV.nul) (i + 4)) hV6.out hle (kV_mkM (x := JV.nul) (R_nilV _ _ _) (R_nilF _ _ _)) ⟨rfl, rfl, hR6.out⟩)
          | false =>
            go_wp2_with fail
            go_quiet ((go_at_call 88; exact Calls.quiet_of (cPn _)))
            have hbn := pw_below_drewN (Below.refl wr.heap.size wr) nq
            have hL3 := hL.below hbn
            generalize wr.drewN nq = w3 at *
            clear nq hc2 hf2 hcb hcw
            have hc3 := cellAll hL3.rs.rd
            have hf3 := frozenAll hL3.rs.rd
            have hcb3 := cellAll hL3.vw.rb
            go_wp2_with fail
            go_roundw
            case rel => exact ⟨1, rfl, by omega, hL3, ⟨fun _ => (by first | rfl | trivial), fun h => by omega, fun h => by omega⟩⟩
            case measure => simp [intOf]
        · -- pt
          have z0 : pn = false := hno.out.1 (by omega)
          subst z0
          cases pt with
          | true =>
            go_wp2_with fail
            go_quiet ((go_at_call 88; exact Calls.quiet_of (cPt _)))
            have hbn := pw_below_drewN (Below.refl wr.heap.size wr) nq
            have hL3 := hL.below hbn
            generalize wr.drewN nq = w3 at *
            clear nq hc2 hf2 hcb hcw
            have hc3 := cellAll hL3.rs.rd
            have hf3 := frozenAll hL3.rs.rd
            have hcb3 := cellAll hL3.vw.rb
            have hsz4 : i + 4 ≤ s.size := ht (by first | rfl | trivial)
            have e4 : (((i + 4 : Nat) : Int)) = (i : Int) + 4 := by omega
            have hR6 := hL3.rs.read (hL3.rs.rd.at_ (i + 4)) ((Read.refl r w3).set_ 1 _) hsz4
            have hV6 := hL3.vw.read ((Read.refl r w3).set_ 1 (.int .i64 ((i + 4 : Nat) : Int)))
            rw [e4] at hR6 hV6
            have hco := cellAll hV6.out
            have hfo := frozenAll hV6.out
            replace hR6 := Aside0.mk hR6
            replace hV6 := Aside0.mk hV6
            go_wp2_with fail
            exact bodyPost_ret (v := .tuple #[.agg #[.int .i64 1, .bool true, .bool false, .string ⟨#[]⟩, .int .i64 0, .string ⟨#[]⟩, .slice none 0 0, .slice none 0 0], .nilIface]) (by simp [results, Tryz.results58, go_sem, hco]) rfl (val_end (res := .ok (.mk 1 true false ⟨#[]⟩ 0 ⟨#[]⟩ [] []) (i + 4)) hV6.out hle (kV_mkM (x := .mk 1 true false ⟨#[]⟩ 0 ⟨#[]⟩ [] []) (R_nilV _ _ _) (R_nilF _ _ _)) ⟨rfl, rfl, hR6.out⟩)
          | false =>
            go_wp2_with fail
            go_quiet ((go_at_call 88; exact Calls.quiet_of (cPt _)))
            have hbn := pw_below_drewN (Below.refl wr.heap.size wr) nq
            have hL3 := hL.below hbn
            generalize wr.drewN nq = w3 at *
            clear nq hc2 hf2 hcb hcw
            have hc3 := cellAll hL3.rs.rd
            have hf3 := frozenAll hL3.rs.rd
            have hcb3 := cellAll hL3.vw.rb
            go_wp2_with fail
            go_roundw
            case rel => exact ⟨2, rfl, by omega, hL3, ⟨fun _ => (by first | rfl | trivial), fun _ => (by first | rfl | trivial), fun h => by omega⟩⟩
            case measure => simp [intOf]
        · -- pf
          have z0 : pn = false := hno.out.1 (by omega)
          have z1 : pt = false := hno.out.2.1 (by omega)
          subst z0
          subst z1
          cases pf with
          | true =>
            go_wp2_with fail
            go_quiet ((go_at_call 88; exact Calls.quiet_of (cPf _)))
            have hbn := pw_below_drewN (Below.refl wr.heap.size wr) nq
            have hL3 := hL.below hbn
            generalize wr.drewN nq = w3 at *
            clear nq hc2 hf2 hcb hcw
            have hc3 := cellAll hL3.rs.rd
            have hf3 := frozenAll hL3.rs.rd
            have hcb3 := cellAll hL3.vw.rb
            have hsz4 : i + 5 ≤ s.size := hf (by first | rfl | trivial)
            have e4 : (((i + 5 : Nat) : Int)) = (i : Int) + 5 := by omega
            have hR6 := hL3.rs.read (hL3.rs.rd.at_ (i + 5)) ((Read.refl r w3).set_ 1 _) hsz4
            have hV6 := hL3.vw.read ((Read.refl r w3).set_ 1 (.int .i64 ((i + 5 : Nat) : Int)))
            rw [e4] at hR6 hV6
            have hco := cellAll hV6.out
            have hfo := frozenAll hV6.out
            replace hR6 := Aside0.mk hR6
            replace hV6 := Aside0.mk hV6
            go_wp2_with fail
            exact bodyPost_ret (v := .tuple #[.agg #[.int .i64 1, .bool false, .bool false, .string ⟨#[]⟩, .int .i64 0, .string ⟨#[]⟩, .slice none 0 0, .slice none 0 0], .nilIface]) (by simp [results, Tryz.results58, go_sem, hco]) rfl (val_end (res := .ok (.mk 1 false false ⟨#[]⟩ 0 ⟨#[]⟩ [] []) (i + 5)) hV6.out hle (kV_mkM (x := .mk 1 false false ⟨#[]⟩ 0 ⟨#[]⟩ [] []) (R_nilV _ _ _) (R_nilF _ _ _)) ⟨rfl, rfl, hR6.out⟩)
          | false =>
            go_wp2_with fail
            go_quiet ((go_at_call 88; exact Calls.quiet_of (cPf _)))
            have hbn := pw_below_drewN (Below.refl wr.heap.size wr) nq
            have hL3 := hL.below hbn
            generalize wr.drewN nq = w3 at *
            clear nq hc2 hf2 hcb hcw
            have hc3 := cellAll hL3.rs.rd
            have hf3 := frozenAll hL3.rs.rd
            have hcb3 := cellAll hL3.vw.rb
            go_wp2_with fail
            go_roundw
            case rel => exact ⟨3, rfl, by omega, hL3, ⟨fun _ => (by first | rfl | trivial), fun _ => (by first | rfl | trivial), fun _ => (by first | rfl | trivial)⟩⟩
            case measure => simp [intOf]
        · -- none
          have z0 : pn = false := hno.out.1 (by omega)
          have z1 : pt = false := hno.out.2.1 (by omega)
          have z2 : pf = false := hno.out.2.2 (by omega)
          subst z0 z1 z2
          have hd2 := hL.rs.er.due_cell
          have hco := cellAll hL.vw.out
          have hfo := frozenAll hL.vw.out
          go_wp2_with fail
          have hne0 : w.heap.size + 1 ≠ w.heap.size := by omega
          have hne1 : w.heap.size + 1 ≠ r := by omega
          have hne2 : w.heap.size + 1 ≠ 1 := by have := World.block_lt_of_cell? _ _ h.er.due_cell; have h9 : 1 < w.heap.size := this; omega
          have hne3 : w.heap.size ≠ 0 := by have := World.block_lt_of_cell? _ _ h.er.due_cell; have h9 : 1 < w.heap.size := this; omega
          go_region_held3 (fun w' => w'.cell? ⟨w.heap.size, 0, none⟩ = some (.pointer (some ⟨r, 0, none⟩)) ∧ w'.cell? ⟨r, 1, none⟩ = some (.int .i64 i) ∧ w'.cell? ⟨1, 0, none⟩ = some (.iface 228 (.pointer (some E.due))))
            (first | (simp; done) | (simp [*]; done) | go_keep)
            (first | (go_at_call 56; refine (fail_any _ _ _ _).mono ?_; rintro e w9 ⟨v, rfl, ⟨kk, rfl, hk⟩, hb9⟩; replace hk := Aside0.mk hk; have hb10 : Below wr.heap.size wr w9 := ⟨hb9.os, hb9.tape, hb9.output, hb9.size, hb9.block⟩; have hL9 := hL.below hb10; have hc9 := cellAll hL9.rs.rd; have hd9 := hL9.rs.er.due_cell; have hcb9 := cellAll hL9.vw.rb; have hco9 := cellAll hL9.vw.out; have hfo9 := frozenAll hL9.vw.out))
          all_goals (go_wp2_with fail)
          exact bodyPost_ret (v := .tuple #[.agg #[.int .i64 0, .bool false, .bool false, .string ⟨#[]⟩, .int .i64 0, .string ⟨#[]⟩, .slice none 0 0, .slice none 0 0], .iface 94 (.pointer (some ⟨kk, 0, none⟩))]) (by simp [results, Tryz.results58, go_sem, hco9]) rfl (val_end (res := .no i .due) hL9.vw hle (M_nul _ _) ⟨⟨kk, rfl, hk.out⟩, i, o, hL9.rs⟩)
  apply go
  omega
end Go.Proofs.YtkdeleafgailhaaGreatDoor
end
section
set_option linter.unusedVariables false
set_option linter.unusedSimpArgs false
namespace Go.Proofs.YtkdeleafgailhaaGreatDoor
open Go Go.RowKit Go.Proofs.YtkdeleafgailhaaGreatDoorW.PrintWords

def objOf : PR (List JF) → PR JV
  | .ok fs j => .ok (.mk 5 false false ⟨#[]⟩ 0 ⟨#[]⟩ [] fs) j
  | .no j k => .no j k
def OSt (E : ErrV) (w0 : World) (s : ByteArray) (o r : Nat) (w : World) (vb : Nat) (j : Nat) (fs : List JF) (W : World) : Prop := OB r w vb fs W ∧ RS E w0 s j (o + 1) r W ∧ fs.length ≤ j
theorem OSt.ok {E : ErrV} {w0 : World} {s : ByteArray} {o r : Nat} {w : World} {vb : Nat} : SevOK E w0 s o r (OSt E w0 s o r w vb) (fun W => ∃ fs, OB r w vb fs W) :=
  ⟨fun i x W h => h.2.1, fun i i' x W W' hi h hR hr => ⟨h.1.read hr, hR, by have := h.2.2; omega⟩, fun i x W W' h hr => ⟨x, h.1.read hr⟩⟩

/-! ### places go on -/
theorem textF_adv (s : ByteArray) : ∀ (n i : Nat) (acc l : List UInt8) (j : Nat), textF s n i acc = .ok l j → i < j
  | 0, i, acc, l, j, h => by rw [textF] at h; cases h
  | n + 1, i, acc, l, j, h => by
    rw [textF] at h
    split at h
    · injection h with _ h; omega
    · split at h
      · cases h
      · rename_i h1 h2
        have := textF_adv s n _ _ l j h
        omega
theorem textAt_adv {s : ByteArray} {i : Nat} {l : List UInt8} {j : Nat} (h : textAt s i = .ok l j) : i < j := by
  have := textF_adv s _ _ _ _ _ h
  omega
theorem field_adv {s : ByteArray} {val : Nat → PR JV} (hadv : ∀ i x j, val i = .ok x j → i < j) {i : Nat} {fs gs : List JF} {j : Nat} (h : fieldAt s val i fs = .ok gs j) : i < j ∧ gs.length = fs.length + 1 := by
  unfold fieldAt at h
  split at h
  · cases ht : textAt s i with
    | no k e => rw [ht] at h; cases h
    | ok l k =>
      rw [ht] at h
      simp only at h
      have h1 := textAt_adv ht
      split at h
      · cases h
      · split at h
        · cases hv : val (gapTo s (gapTo s k + 1)) with
          | no k2 e => rw [hv] at h; cases h
          | ok x k2 =>
            rw [hv] at h
            have h2 := hadv _ _ _ hv
            have h3 := gapTo_le s (gapTo s k + 1)
            have h4 := gapTo_le s k
            unfold fieldOf at h
            injection h with h5 h6
            refine ⟨by omega, ?_⟩
            rw [← h5, List.length_append]
            rfl
        · cases h
  · cases h
theorem numTo_le (s : ByteArray) : ∀ (n i : Nat), i ≤ numTo s n i
  | 0, i => Nat.le_refl _
  | n + 1, i => by
    rw [numTo]
    split
    · have := numTo_le s n (i + 1); omega
    · exact Nat.le_refl _
theorem number_adv {s : ByteArray} {i : Nat} (hc : isNum (byteAt s i) = true) (hi : i < s.size) {x : JV} {j : Nat} (h : numberAt s i = .ok x j) : i < j := by
  unfold numberAt at h
  split at h
  · injection h with _ h
    rw [numTo, if_pos ⟨hi, hc⟩] at h
    have := numTo_le s s.size (i + 1)
    omega
  · cases h
theorem sevF_adv {σ : Type} (s : ByteArray) (c : Nat) (each : Nat → σ → PR σ) (hadv : ∀ i x y j, each i x = .ok y j → i < j) : ∀ (n i : Nat) (x y : σ) (j : Nat), sevF s c each n i x = .ok y j → i < j
  | 0, i, x, y, j, h => by rw [sevF] at h; cases h
  | n + 1, i, x, y, j, h => by
    rw [sevF] at h
    cases he : each i x with
    | no k e => rw [he] at h; cases h
    | ok z k =>
      rw [he] at h
      simp only at h
      have h1 := hadv _ _ _ _ he
      have h2 := gapTo_le s k
      have h3 := gapTo_le s (gapTo s k + 1)
      split at h
      · have := sevF_adv s c each hadv n _ _ _ _ h
        omega
      · split at h
        · injection h with _ h; omega
        · cases h
theorem sevAt_adv {σ : Type} (s : ByteArray) (c : Nat) (each : Nat → σ → PR σ) (hadv : ∀ i x y j, each i x = .ok y j → i < j) {i : Nat} {x y : σ} {j : Nat} (h : sevAt s c each i x = .ok y j) : i < j := by
  unfold sevAt at h
  have h1 := gapTo_le s (i + 1)
  split at h
  · injection h with _ h; omega
  · have := sevF_adv s c each hadv _ _ _ _ _ h
    omega
end Go.Proofs.YtkdeleafgailhaaGreatDoor
end
section
set_option linter.unusedVariables false
set_option linter.unusedSimpArgs false
namespace Go.Proofs.YtkdeleafgailhaaGreatDoor
open Go Go.RowKit Go.Proofs.YtkdeleafgailhaaGreatDoorW.PrintWords

set_option maxRecDepth 100000 in
set_option maxHeartbeats 4000000 in
theorem each_obj {E : ErrV} {w0 : World} {s : ByteArray} {i o r vb : Nat} {wv : World} {fs : List JF} {W : World} (val : Nat → PR JV) (hV : ValOK E w0 s r o val) (hO : OB r wv vb fs W) (hR : RS E w0 s i o r W) (hw0 : w0.heap.size ≤ r) (hlen : fs.length ≤ 1048576) (TT : TypeId) (pp : Value) (hv : w0.cell? ⟨14, 0, none⟩ = some (.iface TT pp)) :
    Calls Tryz.prog 84 #[.pointer (some ⟨wv.heap.size, 0, none⟩), .pointer (some ⟨vb, 0, none⟩)] W fun e w' => FieldGives E w0 s o r wv vb e w' (fieldAt s val i fs) := by
  have hcr := cellAll hO.rb
  have cF := field_any val hV hO hR hw0 hlen TT pp hv
  generalize fieldAt s val i fs = res at cF ⊢
  cases res with
  | ok gs j =>
    simp only [FieldGives] at cF ⊢
    go_enter Tryz.func84, Tryz.ntmps84
    go_wp2_with (go_at_call 85; refine cF.mono ?_; rintro e w2 ⟨rfl, hO2, hR2⟩)
    go_ret
    exact ⟨rfl, hO2, hR2⟩
  | no j k =>
    simp only [FieldGives] at cF ⊢
    go_enter Tryz.func84, Tryz.ntmps84
    go_wp2_with (go_at_call 85; refine cF.mono ?_; rintro e w2 ⟨v, rfl, hk, hO2, hR2⟩)
    go_ret
    exact ⟨v, rfl, hk, hO2, hR2⟩
theorem item_obj {E : ErrV} {w0 : World} {s : ByteArray} {o r : Nat} {w : World} {vb : Nat} (val : Nat → PR JV) (hV : ValOK E w0 s r (o + 1) val) (hadv : ∀ i x j, val i = .ok x j → i < j) (hw0 : w0.heap.size ≤ r) (TT : TypeId) (pp : Value) (hv : w0.cell? ⟨14, 0, none⟩ = some (.iface TT pp)) (j : Nat) (fs : List JF) (W : World) (h : OSt E w0 s o r w vb j fs W) :
    Calls Tryz.prog 84 #[.pointer (some ⟨w.heap.size, 0, none⟩), .pointer (some ⟨vb, 0, none⟩)] W fun e w' => EachGives E w0 s r (OSt E w0 s o r w vb) (fun W => ∃ fs, OB r w vb fs W) j e w' (fieldAt s val j fs) := by
  obtain ⟨h1, h2, h3⟩ := h
  have hsz := h2.size
  have hjl := h2.at_le
  refine (each_obj val hV h1 h2 hw0 (by omega) TT pp hv).mono ?_
  intro e w' hF
  cases hval : fieldAt s val j fs with
  | ok gs k =>
    rw [hval] at hF
    obtain ⟨he, hO, hR⟩ := hF
    obtain ⟨h4, h5⟩ := field_adv hadv hval
    exact ⟨he, ⟨hO, hR, by omega⟩, h4⟩
  | no k e =>
    rw [hval] at hF
    exact hF

set_option maxRecDepth 100000 in
set_option maxHeartbeats 4000000 in
theorem val_obj {E : ErrV} {w0 : World} {s : ByteArray} {i o r : Nat} {w : World} (h : RS E w0 s i o r w) (h123 : byteAt s i = 123) (ho : o ≤ 64) (val : Nat → PR JV) (hV : o ≠ 64 → ValOK E w0 s r (o + 1) val) (hadv : ∀ i x j, val i = .ok x j → i < j) (TT : TypeId) (pp : Value) (hvv : w0.cell? ⟨14, 0, none⟩ = some (.iface TT pp)) :
    Calls Tryz.prog 58 #[.pointer (some ⟨r, 0, none⟩)] w fun e w' => ValGives E w0 s o r w (objOf (if o = 64 then .no i .deep else sevAt s 125 (fieldAt s val) i [])) e w' := by
  obtain ⟨hV0, hR0⟩ := VW.start h
  have hle := h.le
  have hlr := h.rd.lt
  have hc0 := cellAll hV0.rb
  have b1 : ((byteAt s i : Int) == 91) = false := by simp; omega
  have b2 : ((byteAt s i : Int) == 123) = true := by simp; omega
  have his : i < s.size := byteAt_in (by omega)
  have cN := next_s hR0
  have cS := fun (W1 : World) (hW1 : RS E w0 s i o r W1) (vb : Nat) (hL : OB r w vb [] W1) => several_2 hW1 his ho 125 (by omega) (by omega) (OSt E w0 s o r w vb) (fun W => ∃ fs, OB r w vb fs W) (fieldAt s val) [] (.pointer (some ⟨w.heap.size, 0, none⟩)) (.pointer (some ⟨vb, 0, none⟩)) OSt.ok
    (fun hne j y W hS => item_obj val (hV hne) hadv hle TT pp hvv j y W hS) (fun i' W' hR hr => ⟨hL.read hr, hR, Nat.zero_le _⟩) (fun W' hr => ⟨[], hL.read hr⟩)
  generalize (if o = 64 then (PR.no i PE.deep : PR (List JF)) else sevAt s 125 (fieldAt s val) i []) = sv at *
  replace hV0 := Aside0.mk hV0
  clear h123 hV hadv hvv
  have hzero : ∀ w1, VW E w0 s r w w1 → OB r w w1.heap.size [] (w1.alloc (.cells #[.int .i64 5, .bool false, .bool false, .string ⟨#[]⟩, .int .i64 0, .string ⟨#[]⟩, .slice none 0 0, .slice none 0 0] 27)) := by
    intro w1 hV1
    have hb := (Below.refl w1.heap.size w1).alloc (Nat.le_refl _) (.cells #[.int .i64 5, .bool false, .bool false, .string ⟨#[]⟩, .int .i64 0, .string ⟨#[]⟩, .slice none 0 0, .slice none 0 0] 27)
    have hV2 := hV1.read (Read.of_below hb)
    have hl := blk_lt hV1.out
    exact ⟨hV2.rb, hV2.out, ⟨.slice none 0 0, heap_alloc_new w1 _, R_nilF _ _ _⟩, hV2.rd, by omega, hV1.lr⟩
  cases sv with
  | ok xs j =>
    simp only [SevGives] at cS
    unfold objOf
    go_enter Tryz.func58, Tryz.ntmps58
    go_wp2_with (first
      | (go_at_call 82; refine (cS _ hR2.out w1.heap.size hL2.out).mono ?_; rintro e w3 ⟨rfl, hR3, W, k, hS, hW3⟩; have hL3 := hS.1.read hW3; have hlv := hL3.lv; obtain ⟨va, hva, hRv⟩ := hL3.blk; obtain ⟨A3, c3, rfl⟩ := Kd.R_slice hRv; have hcv := cellAll hva; unfold oCells at hcv; have hco := cellAll hL3.out; have hfo := frozenAll hL3.out; unfold nulCells at hco; replace hRv := Aside0.mk hRv; replace hL3 := Aside0.mk hL3)
      | (go_at_call 81; refine cN.mono ?_; rintro e w1 ⟨rfl, hR1, hb1⟩; have hV1 := hV0.out.read (Read.of_below hb1); have hL2 := Aside0.mk (hzero w1 hV1); have hR2 := Aside0.mk (hR1.below ((Below.refl w1.heap.size w1).alloc (Nat.le_refl _) (.cells #[.int .i64 5, .bool false, .bool false, .string ⟨#[]⟩, .int .i64 0, .string ⟨#[]⟩, .slice none 0 0, .slice none 0 0] 27))); have hc1 := cellAll hL2.out.rb; replace hV1 := Aside0.mk hV1))
    exact bodyPost_ret (v := .tuple #[.agg #[.int .i64 5, .bool false, .bool false, .string ⟨#[]⟩, .int .i64 0, .string ⟨#[]⟩, .slice none 0 0, .slice A3 xs.length c3], .nilIface]) (by simp [results, Tryz.results58, go_sem, hco]) rfl (val_end (res := .ok (.mk 5 false false ⟨#[]⟩ 0 ⟨#[]⟩ [] xs) j) ⟨hL3.out.rb, hL3.out.out, hL3.out.rd, hL3.out.lr⟩ hle (kV_mkM (x := .mk 5 false false ⟨#[]⟩ 0 ⟨#[]⟩ [] xs) (R_nilV _ _ _) (Kd.R_lower hRv.out (by omega))) ⟨rfl, rfl, hR3⟩)
  | no j k =>
    simp only [SevGives] at cS
    unfold objOf
    go_enter Tryz.func58, Tryz.ntmps58
    go_wp2_with (first
      | (go_at_call 82; refine (cS _ hR2.out w1.heap.size hL2.out).mono ?_; rintro e w3 ⟨v, rfl, ⟨kk, rfl, hk⟩, ⟨xs, hL3⟩, j', o', hR3⟩; replace hk := Aside0.mk hk; have hlv := hL3.lv; obtain ⟨va, hva, hRv⟩ := hL3.blk; obtain ⟨A3, c3, rfl⟩ := Kd.R_slice hRv; have hcv := cellAll hva; unfold oCells at hcv; have hco := cellAll hL3.out; have hfo := frozenAll hL3.out; unfold nulCells at hco; replace hRv := Aside0.mk hRv; replace hL3 := Aside0.mk hL3)
      | (go_at_call 81; refine cN.mono ?_; rintro e w1 ⟨rfl, hR1, hb1⟩; have hV1 := hV0.out.read (Read.of_below hb1); have hL2 := Aside0.mk (hzero w1 hV1); have hR2 := Aside0.mk (hR1.below ((Below.refl w1.heap.size w1).alloc (Nat.le_refl _) (.cells #[.int .i64 5, .bool false, .bool false, .string ⟨#[]⟩, .int .i64 0, .string ⟨#[]⟩, .slice none 0 0, .slice none 0 0] 27))); have hc1 := cellAll hL2.out.rb; replace hV1 := Aside0.mk hV1))
    exact bodyPost_ret (v := .tuple #[.agg #[.int .i64 5, .bool false, .bool false, .string ⟨#[]⟩, .int .i64 0, .string ⟨#[]⟩, .slice none 0 0, .slice A3 xs.length c3], .iface 94 (.pointer (some ⟨kk, 0, none⟩))]) (by simp [results, Tryz.results58, go_sem, hco]) rfl (val_end (res := .no j k) ⟨hL3.out.rb, hL3.out.out, hL3.out.rd, hL3.out.lr⟩ hle (kV_mkM (x := .mk 5 false false ⟨#[]⟩ 0 ⟨#[]⟩ [] xs) (R_nilV _ _ _) (Kd.R_lower hRv.out (by omega))) ⟨⟨kk, rfl, hk.out⟩, j', o', hR3⟩)
end Go.Proofs.YtkdeleafgailhaaGreatDoor
end
section
set_option linter.unusedVariables false
set_option linter.unusedSimpArgs false
namespace Go.Proofs.YtkdeleafgailhaaGreatDoor
open Go Go.RowKit Go.Proofs.YtkdeleafgailhaaGreatDoorW.PrintWords

def valWith (s : ByteArray) (lst obj : PR JV) (i : Nat) : PR JV :=
  if byteAt s i = 91 then lst
  else if byteAt s i = 123 then obj
  else if byteAt s i = 34 then textVal s i
  else if byteAt s i = 45 ∨ (48 ≤ byteAt s i ∧ byteAt s i ≤ 57) then numberAt s i
  else litAt s i
/-- A value from a place on; so many brackets may be opened. -/
def valF (s : ByteArray) : Nat → Nat → PR JV
  | 0, i => valWith s (.no i .deep) (.no i .deep) i
  | D + 1, i => valWith s (listOf (sevAt s 93 (itemL (valF s D)) i [])) (objOf (sevAt s 125 (fieldAt s (valF s D)) i [])) i

theorem textVal_adv {s : ByteArray} {i : Nat} {x : JV} {j : Nat} (h : textVal s i = .ok x j) : i < j := by
  unfold textVal at h
  cases ht : textAt s i with
  | no k e => rw [ht] at h; cases h
  | ok l k =>
    rw [ht] at h
    injection h with _ h
    have := textAt_adv ht
    omega
theorem litAt_adv {s : ByteArray} {i : Nat} {x : JV} {j : Nat} (h : litAt s i = .ok x j) : i < j := by
  unfold litAt at h
  repeat' split at h
  all_goals (first | (injection h with _ h; omega) | cases h)
theorem valWith_adv {s : ByteArray} {lst obj : PR JV} {i : Nat} (hl : ∀ x j, lst = .ok x j → i < j) (ho : ∀ x j, obj = .ok x j → i < j) {x : JV} {j : Nat} (h : valWith s lst obj i = .ok x j) : i < j := by
  unfold valWith at h
  split at h
  · exact hl _ _ h
  · split at h
    · exact ho _ _ h
    · split at h
      · exact textVal_adv h
      · split at h
        · rename_i h1 h2 h3 h4
          refine number_adv ?_ (byteAt_in (by omega)) h
          unfold isNum isDg
          rcases h4 with h4 | ⟨h4, h5⟩
          · rw [h4]; rfl
          · simp [h4, h5]
        · exact litAt_adv h
theorem itemL_adv {val : Nat → PR JV} (hadv : ∀ i x j, val i = .ok x j → i < j) (i : Nat) (xs ys : List JV) (j : Nat) (h : itemL val i xs = .ok ys j) : i < j := by
  unfold itemL at h
  cases hv : val i with
  | no k e => rw [hv] at h; cases h
  | ok x k =>
    rw [hv] at h
    injection h with _ h
    have := hadv _ _ _ hv
    omega
theorem listOf_ok {p : PR (List JV)} {x : JV} {j : Nat} (h : listOf p = .ok x j) : ∃ xs, p = .ok xs j := by
  cases p with
  | no k e => cases h
  | ok xs k => injection h with _ h; subst h; exact ⟨xs, rfl⟩
theorem objOf_ok {p : PR (List JF)} {x : JV} {j : Nat} (h : objOf p = .ok x j) : ∃ xs, p = .ok xs j := by
  cases p with
  | no k e => cases h
  | ok xs k => injection h with _ h; subst h; exact ⟨xs, rfl⟩
theorem valF_adv (s : ByteArray) : ∀ (D i : Nat) (x : JV) (j : Nat), valF s D i = .ok x j → i < j
  | 0, i, x, j, h => by
    rw [valF] at h
    exact valWith_adv (fun x j h => by cases h) (fun x j h => by cases h) h
  | D + 1, i, x, j, h => by
    rw [valF] at h
    refine valWith_adv (fun x j h => ?_) (fun x j h => ?_) h
    · obtain ⟨xs, hx⟩ := listOf_ok h
      exact sevAt_adv s 93 _ (fun i x y j h => itemL_adv (valF_adv s D) i x y j h) hx
    · obtain ⟨xs, hx⟩ := objOf_ok h
      exact sevAt_adv s 125 _ (fun i x y j h => (field_adv (valF_adv s D) h).1) hx

/-- One depth, the next one given. -/
theorem value_step {E : ErrV} {w0 : World} {s : ByteArray} {r o : Nat} (ho : o ≤ 64) (val : Nat → PR JV) (hV : o ≠ 64 → ValOK E w0 s r (o + 1) val) (hadv : ∀ i x j, val i = .ok x j → i < j) (TT : TypeId) (pp : Value) (hvv : w0.cell? ⟨14, 0, none⟩ = some (.iface TT pp)) :
    ValOK E w0 s r o (fun i => valWith s (listOf (if o = 64 then .no i .deep else sevAt s 93 (itemL val) i [])) (objOf (if o = 64 then .no i .deep else sevAt s 125 (fieldAt s val) i [])) i) := by
  intro i W h
  show Calls Tryz.prog 58 #[.pointer (some ⟨r, 0, none⟩)] W fun e w' => ValGives E w0 s o r W (valWith s (listOf (if o = 64 then .no i .deep else sevAt s 93 (itemL val) i [])) (objOf (if o = 64 then .no i .deep else sevAt s 125 (fieldAt s val) i [])) i) e w'
  unfold valWith
  by_cases h1 : byteAt s i = 91
  · rw [if_pos h1]; exact val_list h h1 ho val hV hadv
  rw [if_neg h1]
  by_cases h2 : byteAt s i = 123
  · rw [if_pos h2]; exact val_obj h h2 ho val hV hadv TT pp hvv
  rw [if_neg h2]
  by_cases h3 : byteAt s i = 34
  · rw [if_pos h3]; exact val_text h TT pp hvv h3
  rw [if_neg h3]
  by_cases h4 : byteAt s i = 45 ∨ (48 ≤ byteAt s i ∧ byteAt s i ≤ 57)
  · rw [if_pos h4]; exact val_num h h4
  rw [if_neg h4]
  exact val_lit h h1 h2 h3 (fun e => h4 (.inl e)) (fun e => h4 (.inr e))
theorem value_any {E : ErrV} {w0 : World} {s : ByteArray} {r : Nat} (TT : TypeId) (pp : Value) (hvv : w0.cell? ⟨14, 0, none⟩ = some (.iface TT pp)) : ∀ D, D ≤ 64 → ValOK E w0 s r (64 - D) (valF s D)
  | 0, _ => by
    have h := value_step (E := E) (w0 := w0) (s := s) (r := r) (o := 64) (Nat.le_refl _) (fun i => .no i .due) (fun h => absurd rfl h) (fun i x j h => by cases h) TT pp hvv
    intro i W hR
    have h2 := h i W hR
    simp only [if_true] at h2
    exact h2
  | D + 1, hD => by
    have h := value_step (E := E) (w0 := w0) (s := s) (r := r) (o := 64 - (D + 1)) (by omega) (valF s D) (fun _ => by rw [show 64 - (D + 1) + 1 = 64 - D by omega]; exact value_any TT pp hvv D (by omega)) (valF_adv s D) TT pp hvv
    intro i W hR
    have h2 := h i W hR
    simp only [if_neg (show ¬ 64 - (D + 1) = 64 by omega)] at h2
    exact h2
#print axioms value_any
end Go.Proofs.YtkdeleafgailhaaGreatDoor
end
