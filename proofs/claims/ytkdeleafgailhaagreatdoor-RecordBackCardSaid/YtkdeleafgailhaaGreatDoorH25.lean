/- record.Encode. record.Encode of an event of a kind that there is. voyageref02.Like: are two values one? voyageref02.Like: values whose heads are one; Like, whole. voyageref02.follows, letter: a letter's bytes. -/
import Derived.Test.YtkdeleafgailhaaGreatDoorH24
import Derived.Test.YtkdeleafgailhaaGreatDoorH20
import Derived.Test.YtkdeleafgailhaaGreatDoorH22
import Derived.Test.YtkdeleafgailhaaGreatDoorH10
section
set_option linter.unusedVariables false
set_option linter.unusedSimpArgs false
namespace Go.Proofs.YtkdeleafgailhaaGreatDoor
open Go Go.RowKit Go.Proofs.YtkdeleafgailhaaGreatDoorW.PrintWords

theorem wout_any (w0 : World) (v : Value) (xs : List UInt8) (o : Outc) (w : World) (vs : List Value) (hO : BOwn w0.heap.size v xs w) (hlow : Below w0.heap.size w0 w) (hK : kV.K w0 o.value vs) (hF : Facts w0) (hwt : o.value.wt ≤ 1073741824) (hin : o.value.ints) (hx : xs.length ≤ 1073741824) (ht : takenP o) :
    Calls Tryz.prog 49 #[v, .agg (.bool o.fine :: (vs ++ [.string ⟨o.err.toArray⟩, .string ⟨o.cause.toArray⟩])).toArray] w fun e w' => ∃ v1, e = .returned v1 ∧ BOwn w0.heap.size v1 (xs ++ outE o) w' ∧ BW w0.heap.size w w' := by
  unfold takenP at ht
  cases hf : o.fine with
  | true =>
    rw [if_pos hf] at ht
    exact wout_fine w0 v xs o hf w vs hO hlow hK hF hwt hin hx ht.2.2
  | false =>
    rw [if_neg (by rw [hf]; simp)] at ht
    exact wout_not w0 v xs o hf w vs hO hlow hK hx ht.2.1
/-- The bytes under way: b; the string's iterator; the event's box. -/
structure EncAt (w : World) (box : Array Value) (s : ByteArray) (p : Nat) (v : Value) (xs : List UInt8) (W : World) : Prop where
  it : W.heap[w.heap.size + 2]? = some (.stringIter s p)
  blk : W.heap[w.heap.size]? = some (.cells box 48 (0, 0))
  own : BOwn w.heap.size v xs W
  low : Below w.heap.size w W
theorem EncAt.size {w : World} {box : Array Value} {s : ByteArray} {p : Nat} {v : Value} {xs : List UInt8} {W : World} (h : EncAt w box s p v xs W) : w.heap.size ≤ W.heap.size := h.low.size
theorem EncAt.next {w : World} {box : Array Value} {s : ByteArray} {p : Nat} {v : Value} {xs : List UInt8} {W : World} (h : EncAt w box s p v xs W) (p' : Nat) : EncAt w box s p' v xs (W.iterAt (w.heap.size + 2) s p') :=
  ⟨Lib.iterAt_heap W _ s p p' h.it, (Lib.iterAt_other W _ _ s p' (by omega)).trans h.blk, h.own.move (fun k hk => Lib.iterAt_other W _ _ s p' (fun e => by
    obtain ⟨c, hc⟩ := own_typed h.own k hk
    rw [e, h.it] at hc
    cases hc)), Lib.below_iterAt h.low (by omega) s p'⟩
theorem EncAt.write {w : World} {box : Array Value} {s : ByteArray} {p : Nat} {v v' : Value} {xs xs' : List UInt8} {W W' : World} (h : EncAt w box s p v xs W) (hB : BW w.heap.size W W') (hO : BOwn w.heap.size v' xs' W') : EncAt w box s p v' xs' W' :=
  ⟨hB.keep _ _ h.it (fun c fz e => by cases e), hB.keep _ _ h.blk (fun c fz e => by injection e with _ e; exact absurd e (by decide)), hO, h.low.trans hB.low⟩
theorem EncAt.below {w : World} {box : Array Value} {s : ByteArray} {p : Nat} {v : Value} {xs : List UInt8} {W W' : World} (h : EncAt w box s p v xs W) (hb : Below W.heap.size W W') : EncAt w box s p v xs W' := h.write (BW.of hb h.size) (h.own.below hb)
theorem own_lit (W : World) (base : Nat) (c : UInt8) (hb : base ≤ W.heap.size) : BOwn base (.slice (some ⟨W.heap.size, 0, none⟩) 1 1) [c] (W.alloc (.cells #[.int .u8 c.toNat] 5)) :=
  ⟨rfl, .inr ⟨W.heap.size, 1, _, rfl, hb, heap_alloc_new W _, Nat.le_refl _, by simp [maxLen], rfl, rfl⟩⟩
theorem tells_snoc (ps : List EvPart) (e : Evn) (j : Nat) (c : EvPart) (h : ps[j]? = some c) : tellsP (ps.take (j + 1)) e = tellsP (ps.take j) e ++ tellP c e := by
  unfold tellsP
  rw [List.take_add_one, h, Option.toList_some, List.flatMap_append]
  simp
theorem take_may {ps : List EvPart} {e : Evn} {j : Nat} {c : EvPart} (h : ps[j]? = some c) (hm : ∀ x ∈ ps.take j, mayP x e) (hc : mayP c e) : ∀ x ∈ ps.take (j + 1), mayP x e := by
  intro x hx
  rw [List.take_add_one, h, Option.toList_some] at hx
  rcases List.mem_append.1 hx with hx | hx
  · exact hm x hx
  · rw [List.mem_singleton] at hx; subst hx; exact hc
theorem partsS_size (k : Int) : (partsS k).size = (partsOf k).length := by unfold partsS; rw [size_of_l, List.length_map]
theorem partsS_at (k : Int) (j : Nat) (c : EvPart) (h : (partsOf k)[j]? = some c) (hj : j < (partsS k).size) : ((partsS k)[j]'hj) = c.byte := by
  obtain ⟨h1, h2⟩ := List.getElem?_eq_some_iff.1 h
  have hl : j < ((partsOf k).map EvPart.byte).toArray.size := by simpa using h1
  show (((partsOf k).map EvPart.byte).toArray[j]'hl) = _
  simp [h2]
theorem byte_low (c : EvPart) : c.byte.toNat < 128 := by cases c <;> decide
def EncGives (a : Addr) (w : World) (e : Evn) (en : Ending) (w' : World) : Prop :=
  (encs e ∧ ∃ v, en = .returned (.tuple #[v, .nilIface]) ∧ BOwn w.heap.size v (encB e) w' ∧ Below w.heap.size w w') ∨ (¬ encs e ∧ en = .returned (.tuple #[.slice none 0 0, ev a]) ∧ Below w.heap.size w w')

set_option maxRecDepth 100000 in
set_option maxHeartbeats 8000000 in
theorem enc_bad (E : ErrV) (a : Addr) (e : Evn) (w : World) (cs : List Value) (hK : EvK w e cs) (hP : REnv E a w) (hk : ¬ (1 ≤ e.kind ∧ e.kind ≤ 7)) :
    Calls Tryz.prog 23 #[.agg cs.toArray] w fun en w' => EncGives a w e en w' := by
  have hno : ¬ encs e := fun h => hk (parts_range h.1)
  obtain ⟨PA, pc, vs, rfl, hR, hpc, hKv⟩ := hK
  obtain ⟨A, lc, B, ld, rfl, _⟩ := VC.of hKv
  unfold Evn.cells JV.cells at *
  obtain ⟨box, hbox⟩ : ∃ box : Array Value, #[.int .i64 e.kind, .slice PA e.place.length pc, .int .i64 e.time, .bool e.out.fine, .int .i64 e.out.value.kind, .bool e.out.value.truth, .bool e.out.value.neg, .string e.out.value.digits, .int .i64 e.out.value.exp, .string e.out.value.text, .slice A e.out.value.list.length lc, .slice B e.out.value.fields.length ld, .string ⟨e.out.err.toArray⟩, .string ⟨e.out.cause.toArray⟩, .string ⟨e.machine.toArray⟩, .string ⟨e.input.toArray⟩, .int .i64 e.fuel] = box := ⟨_, rfl⟩
  have hB0 := (Below.refl w.heap.size w).alloc (Nat.le_refl _) (.cells box 48)
  have hbx := heap_alloc_new w (.cells box 48)
  have hc0 := cellAll hbx
  have cP := parts_any E a e.kind _ (hP.below hB0)
  rw [parts_out hk] at cP
  have hB2 := (hB0.alloc (by simp) (.cells #[.int .u8 (IntKind.u8.wrap e.kind)] 5)).alloc (by simp; omega) (.stringIter ⟨#[]⟩ 0)
  have hev := (hP.below hB2).cell
  have hit := heap_alloc_new ((w.alloc (.cells box 48)).alloc (.cells #[.int .u8 (IntKind.u8.wrap e.kind)] 5)) (.stringIter ⟨#[]⟩ 0)
  rw [show ((w.alloc (.cells box 48)).alloc (.cells #[.int .u8 (IntKind.u8.wrap e.kind)] 5)).heap.size = w.heap.size + 1 + 1 by simp] at hit
  subst hbox
  replace hB2 := Aside0.mk hB2
  replace hno := Aside0.mk hno
  clear hB0 hbx hP hR hKv
  go_enter Tryz.func23, Tryz.ntmps23
  go_wp2_with (go_at_call 45; refine cP.mono ?_; rintro en w1 ⟨rfl, rfl⟩)
  go_loopw [5] (fun v wr => wr = ((w.alloc (.cells #[.int .i64 e.kind, .slice PA e.place.length pc, .int .i64 e.time, .bool e.out.fine, .int .i64 e.out.value.kind, .bool e.out.value.truth, .bool e.out.value.neg, .string e.out.value.digits, .int .i64 e.out.value.exp, .string e.out.value.text, .slice A e.out.value.list.length lc, .slice B e.out.value.fields.length ld, .string ⟨e.out.err.toArray⟩, .string ⟨e.out.cause.toArray⟩, .string ⟨e.machine.toArray⟩, .string ⟨e.input.toArray⟩, .int .i64 e.fuel] 48)).alloc (.cells #[.int .u8 (IntKind.u8.wrap e.kind)] 5)).alloc (.stringIter ⟨#[]⟩ 0)) (fun _ _ => 0)
  case atStart => rfl
  case round =>
    rw [← hrel] at hit hev hB2
    clear hrel
    have hnx : ∀ ty, (Instr.next (.pointer (some ⟨w.heap.size + 1 + 1, 0, none⟩)) true ty).run Tryz.prog wr = _ := fun ty => Lib.run_next_end_at wr (w.heap.size + 1 + 1) ⟨#[]⟩ 0 ty hit (by decide)
    replace hit := Aside0.mk hit
    go_wp2_with fail
    go_quiet (fail)
    go_wp2_with fail
    go_ret2
    exact .inr ⟨hno.out, rfl, pw_below_drewN hB2.out _⟩
end Go.Proofs.YtkdeleafgailhaaGreatDoor
end
section
set_option linter.unusedVariables false
set_option linter.unusedSimpArgs false
namespace Go.Proofs.YtkdeleafgailhaaGreatDoor
open Go Go.RowKit Go.Proofs.YtkdeleafgailhaaGreatDoorW.PrintWords

theorem partsS_some {k : Int} (h : 1 ≤ k ∧ k ≤ 7) : (partsS k).toList.isEmpty = false := by
  have hk : k = 1 ∨ k = 2 ∨ k = 3 ∨ k = 4 ∨ k = 5 ∨ k = 6 ∨ k = 7 := by omega
  rw [toList_eq]
  rcases hk with rfl | rfl | rfl | rfl | rfl | rfl | rfl <;> rfl
theorem parts_some {k : Int} (h : 1 ≤ k ∧ k ≤ 7) : partsOf k ≠ [] := by
  have hk : k = 1 ∨ k = 2 ∨ k = 3 ∨ k = 4 ∨ k = 5 ∨ k = 6 ∨ k = 7 := by omega
  rcases hk with rfl | rfl | rfl | rfl | rfl | rfl | rfl <;> decide
theorem take_len {ps : List EvPart} {e : Evn} {j : Nat} (hl : ps.length ≤ 3) (hm : ∀ x ∈ ps.take j, mayP x e) : (tellsP (ps.take j) e).length ≤ 3145800 := by
  have h1 := tells_len (ps.take j) e hm
  have h2 : (ps.take j).length ≤ 3 := by rw [List.length_take]; omega
  have : 1048600 * (ps.take j).length ≤ 1048600 * 3 := Nat.mul_le_mul_left _ h2
  omega
/-- What Encode asks of an event's sizes. -/
structure EvOK (e : Evn) : Prop where
  wt : e.out.value.wt ≤ 1073741824
  ints : e.out.value.ints
  err : e.out.err.length ≤ 140737488355328
  cause : e.out.cause.length ≤ 140737488355328
theorem placeE_snoc : ∀ (l : List Int) (n : Int), placeE (l ++ [n]) = placeE l ++ cntE n.toNat
  | [], n => by simp [placeE]
  | m :: l, n => by rw [List.cons_append, placeE, placeE, placeE_snoc l n, List.append_assoc]
theorem EncAt.less {w : World} {box box' : Array Value} {s : ByteArray} {p : Nat} {v v' : Value} {xs xs' : List UInt8} {W W' : World} (h : EncAt w box s (p + 1) v xs W) (h0 : EncAt w box' s p v' xs' W') (hp : p < s.size) : s.size - W.iterPos (w.heap.size + 2) < s.size - W'.iterPos (w.heap.size + 2) := by
  simp only [World.iterPos, h.it, h0.it]
  omega

set_option maxRecDepth 100000 in
set_option maxHeartbeats 32000000 in
theorem enc_ok (E : ErrV) (a : Addr) (e : Evn) (w : World) (cs : List Value) (hK : EvK w e cs) (hP : REnv E a w) (hk : 1 ≤ e.kind ∧ e.kind ≤ 7) (hf : EvOK e) :
    Calls Tryz.prog 23 #[.agg cs.toArray] w fun en w' => EncGives a w e en w' := by
  have hKE := hK
  obtain ⟨PA, pc, vs, rfl, hR, hpc, hKv⟩ := hK
  obtain ⟨A, lc, B, ld, rfl, _⟩ := VC.of hKv
  unfold Evn.cells JV.cells at *
  obtain ⟨box, hbox⟩ : ∃ box : Array Value, #[.int .i64 e.kind, .slice PA e.place.length pc, .int .i64 e.time, .bool e.out.fine, .int .i64 e.out.value.kind, .bool e.out.value.truth, .bool e.out.value.neg, .string e.out.value.digits, .int .i64 e.out.value.exp, .string e.out.value.text, .slice A e.out.value.list.length lc, .slice B e.out.value.fields.length ld, .string ⟨e.out.err.toArray⟩, .string ⟨e.out.cause.toArray⟩, .string ⟨e.machine.toArray⟩, .string ⟨e.input.toArray⟩, .int .i64 e.fuel] = box := ⟨_, rfl⟩
  have hB0 := (Below.refl w.heap.size w).alloc (Nat.le_refl _) (.cells box 48)
  have hbx := heap_alloc_new w (.cells box 48)
  have hc0 := cellAll hbx
  have cP := parts_any E a e.kind _ (hP.below hB0)
  have hwk : IntKind.u8.wrap e.kind = e.kind := by rw [IntKind.wrap_u8]; omega
  have hkb : ((UInt8.ofNat e.kind.toNat).toNat : Int) = e.kind := by rw [u8_toNat (by omega)]; omega
  have hse := partsS_some hk
  have hpn := parts_some hk
  have hp3 := (parts_nodup e.kind).2
  have hsz := partsS_size e.kind
  have hat := partsS_at e.kind
  have hencs : encs e ↔ ∀ c ∈ partsOf e.kind, mayP c e := ⟨fun h => h.2, fun h => ⟨hpn, h⟩⟩
  have hencB : encB e = UInt8.ofNat e.kind.toNat :: tellsP (partsOf e.kind) e := rfl
  generalize partsS e.kind = s at *
  generalize partsOf e.kind = ps at *
  generalize UInt8.ofNat e.kind.toNat = k0 at *
  have hA0 : EncAt w box s 0 (.slice (some ⟨w.heap.size + 1, 0, none⟩) 1 1) [k0] (((w.alloc (.cells box 48)).alloc (.cells #[.int .u8 e.kind] 5)).alloc (.stringIter s 0)) := by
    have ho := own_lit (w.alloc (.cells box 48)) w.heap.size k0 (by simp)
    rw [hkb, show (w.alloc (.cells box 48)).heap.size = w.heap.size + 1 by simp] at ho
    have hB1 := (Below.refl (w.alloc (.cells box 48)).heap.size (w.alloc (.cells box 48))).alloc (Nat.le_refl _) (.cells #[.int .u8 e.kind] 5)
    have hB2 := (Below.refl ((w.alloc (.cells box 48)).alloc (.cells #[.int .u8 e.kind] 5)).heap.size ((w.alloc (.cells box 48)).alloc (.cells #[.int .u8 e.kind] 5))).alloc (Nat.le_refl _) (.stringIter s 0)
    refine ⟨?_, (hB2.block _ (by simp; omega)).trans ((hB1.block _ (by simp)).trans hbx), BOwn.below ho hB2, ((Below.refl w.heap.size w).alloc (Nat.le_refl _) _ |>.alloc (by simp) _).alloc (by simp; omega) _⟩
    have := heap_alloc_new ((w.alloc (.cells box 48)).alloc (.cells #[.int .u8 e.kind] 5)) (.stringIter s 0)
    rw [show ((w.alloc (.cells box 48)).alloc (.cells #[.int .u8 e.kind] 5)).heap.size = w.heap.size + 2 by simp] at this
    exact this
  have hBX : ∀ {W : World} {p : Nat} {v : Value} {xs : List UInt8}, EncAt w box s p v xs W → ∀ j, W.cell? ⟨w.heap.size, j, none⟩ = box[j]? := fun h => cellAll h.blk
  subst hbox
  replace hA0 := Aside0.mk hA0
  replace hkb := Aside0.mk hkb
  replace hsz := Aside0.mk hsz
  replace hat := Aside0.mk hat
  replace hencs := Aside0.mk hencs
  replace hencB := Aside0.mk hencB
  replace hp3 := Aside0.mk hp3
  replace hP := Aside0.mk hP
  replace hf := Aside0.mk hf
  replace hpc := Aside0.mk hpc
  clear hbx hB0 hpn hk
  go_enter Tryz.func23, Tryz.ntmps23
  go_wp2_with (go_at_call 45; refine cP.mono ?_; rintro en w1 ⟨rfl, rfl⟩)
  clear cP hc0
  go_loopw [5] (fun b wr => ∃ (j : Nat) (xs : List UInt8) (v0 : Value), v0 = b ∧ EncAt w #[.int .i64 e.kind, .slice PA e.place.length pc, .int .i64 e.time, .bool e.out.fine, .int .i64 e.out.value.kind, .bool e.out.value.truth, .bool e.out.value.neg, .string e.out.value.digits, .int .i64 e.out.value.exp, .string e.out.value.text, .slice A e.out.value.list.length lc, .slice B e.out.value.fields.length ld, .string ⟨e.out.err.toArray⟩, .string ⟨e.out.cause.toArray⟩, .string ⟨e.machine.toArray⟩, .string ⟨e.input.toArray⟩, .int .i64 e.fuel] s j v0 xs wr ∧ j ≤ ps.length ∧ Aside0 (xs = k0 :: tellsP (ps.take j) e) ∧ Aside0 (∀ c ∈ ps.take j, mayP c e)) (fun _ wr => s.size - wr.iterPos (w.heap.size + 2))
  case atStart => exact ⟨0, [k0], _, rfl, hA0.out, Nat.zero_le _, ⟨rfl⟩, ⟨fun c h => nomatch h⟩⟩
  case round =>
    obtain ⟨j, xs, v0, hv0, hA, hj, hxs, hm⟩ := hrel
    subst hv0
    have hxl : Aside0 (xs.length ≤ 3145801) := ⟨by have := take_len (e := e) (j := j) hp3.out hm.out; rw [hxs.out, List.length_cons]; omega⟩
    by_cases hlt : j < ps.length
    · obtain ⟨c, hc⟩ : ∃ c, ps[j]? = some c := ⟨_, List.getElem?_eq_getElem hlt⟩
      have hlt2 : j < s.size := by rw [hsz.out]; exact hlt
      obtain ⟨W2, hW2⟩ : ∃ W2, wr.iterAt (w.heap.size + 2) s (j + 1) = W2 := ⟨_, rfl⟩
      have hA2 := hA.next (j + 1)
      rw [hW2] at hA2
      have hnx : ∀ ty, (Instr.next (.pointer (some ⟨w.heap.size + 1 + 1, 0, none⟩)) true ty).run Tryz.prog wr = .ok (.tuple #[.bool true, .int .i64 j, .int .i32 (c.byte.toNat : Int)]) W2 := fun ty => by
        have h := Lib.run_next_ascii_at (P := Tryz.prog) wr (w.heap.size + 2) s j ty hA.it hlt2 (by rw [hat.out j c hc hlt2]; exact byte_low c)
        rw [hat.out j c hc hlt2, hW2] at h
        exact h
      have hc2 := hBX hA2
      have cM := may_any c e W2 _ (hKE.below hA2.low) (hP.out.env.facts.below hA2.low) (fun _ => ⟨hf.out.wt, hf.out.ints, hf.out.err, hf.out.cause⟩)
      unfold BoolIs at cM
      have hless : ∀ {v' : Value} {xs' : List UInt8} {W' : World}, EncAt w #[.int .i64 e.kind, .slice PA e.place.length pc, .int .i64 e.time, .bool e.out.fine, .int .i64 e.out.value.kind, .bool e.out.value.truth, .bool e.out.value.neg, .string e.out.value.digits, .int .i64 e.out.value.exp, .string e.out.value.text, .slice A e.out.value.list.length lc, .slice B e.out.value.fields.length ld, .string ⟨e.out.err.toArray⟩, .string ⟨e.out.cause.toArray⟩, .string ⟨e.machine.toArray⟩, .string ⟨e.input.toArray⟩, .int .i64 e.fuel] s (j + 1) v' xs' W' → s.size - W'.iterPos (w.heap.size + 2) < s.size - wr.iterPos (w.heap.size + 2) := fun h => h.less hA hlt2
      have hrelE : ∀ {v' : Value} {W' : World}, mayP c e → EncAt w #[.int .i64 e.kind, .slice PA e.place.length pc, .int .i64 e.time, .bool e.out.fine, .int .i64 e.out.value.kind, .bool e.out.value.truth, .bool e.out.value.neg, .string e.out.value.digits, .int .i64 e.out.value.exp, .string e.out.value.text, .slice A e.out.value.list.length lc, .slice B e.out.value.fields.length ld, .string ⟨e.out.err.toArray⟩, .string ⟨e.out.cause.toArray⟩, .string ⟨e.machine.toArray⟩, .string ⟨e.input.toArray⟩, .int .i64 e.fuel] s (j + 1) v' (xs ++ tellP c e) W' → ∃ (j : Nat) (xs : List UInt8) (v0 : Value), v0 = v' ∧ EncAt w #[.int .i64 e.kind, .slice PA e.place.length pc, .int .i64 e.time, .bool e.out.fine, .int .i64 e.out.value.kind, .bool e.out.value.truth, .bool e.out.value.neg, .string e.out.value.digits, .int .i64 e.out.value.exp, .string e.out.value.text, .slice A e.out.value.list.length lc, .slice B e.out.value.fields.length ld, .string ⟨e.out.err.toArray⟩, .string ⟨e.out.cause.toArray⟩, .string ⟨e.machine.toArray⟩, .string ⟨e.input.toArray⟩, .int .i64 e.fuel] s j v0 xs W' ∧ j ≤ ps.length ∧ Aside0 (xs = k0 :: tellsP (ps.take j) e) ∧ Aside0 (∀ c ∈ ps.take j, mayP c e) := fun hmc h => ⟨j + 1, _, _, rfl, h, hlt, ⟨by rw [hxs.out, tells_snoc ps e j c hc]; rfl⟩, ⟨take_may hc hm.out hmc⟩⟩
      by_cases hmay : mayP c e
      · have cM2 : Calls Tryz.prog 46 #[.int .i32 (c.byte.toNat : Int), .agg #[.int .i64 e.kind, .slice PA e.place.length pc, .int .i64 e.time, .bool e.out.fine, .int .i64 e.out.value.kind, .bool e.out.value.truth, .bool e.out.value.neg, .string e.out.value.digits, .int .i64 e.out.value.exp, .string e.out.value.text, .slice A e.out.value.list.length lc, .slice B e.out.value.fields.length ld, .string ⟨e.out.err.toArray⟩, .string ⟨e.out.cause.toArray⟩, .string ⟨e.machine.toArray⟩, .string ⟨e.input.toArray⟩, .int .i64 e.fuel]] W2 fun en w' => en = .returned (.bool true) ∧ EncAt w #[.int .i64 e.kind, .slice PA e.place.length pc, .int .i64 e.time, .bool e.out.fine, .int .i64 e.out.value.kind, .bool e.out.value.truth, .bool e.out.value.neg, .string e.out.value.digits, .int .i64 e.out.value.exp, .string e.out.value.text, .slice A e.out.value.list.length lc, .slice B e.out.value.fields.length ld, .string ⟨e.out.err.toArray⟩, .string ⟨e.out.cause.toArray⟩, .string ⟨e.machine.toArray⟩, .string ⟨e.input.toArray⟩, .int .i64 e.fuel] s (j + 1) v0 xs w' := by
          refine cM.mono ?_
          rintro en w' ⟨b, rfl, hbi, hb⟩
          have : b = true := hbi.2 hmay
          subst this
          exact ⟨rfl, hA2.below hb⟩
        clear cM
        -- parts: begin
        cases c with
        | m =>
          rw [show ((EvPart.m.byte.toNat : Nat) : Int) = 109 from rfl] at hnx cM2
          have hmb : Aside0 (e.machine.length ≤ 1048576) := ⟨hmay⟩
          go_wp2_with (first
            | (go_at_call 47; refine (wtext_any w.heap.size v0 xs e.machine w3 hA3.own hA3.size (by have := hmb.out; omega) (by have := hxl.out; omega)).mono ?_; rintro en w5 ⟨v5, rfl, hO5, hB5⟩; have hA5 := hA3.write hB5 hO5)
            | (go_at_call 46; refine cM2.mono ?_; rintro en w3 ⟨rfl, hA3⟩; have hc3 := hBX hA3))
          go_roundw
          case rel => exact hrelE hmay hA5
          case measure => exact hless hA5
        | i =>
          rw [show ((EvPart.i.byte.toNat : Nat) : Int) = 105 from rfl] at hnx cM2
          have hmb : Aside0 (e.input.length ≤ 1048576) := ⟨hmay⟩
          go_wp2_with (first
            | (go_at_call 47; refine (wtext_any w.heap.size v0 xs e.input w3 hA3.own hA3.size (by have := hmb.out; omega) (by have := hxl.out; omega)).mono ?_; rintro en w5 ⟨v5, rfl, hO5, hB5⟩; have hA5 := hA3.write hB5 hO5)
            | (go_at_call 46; refine cM2.mono ?_; rintro en w3 ⟨rfl, hA3⟩; have hc3 := hBX hA3))
          go_roundw
          case rel => exact hrelE hmay hA5
          case measure => exact hless hA5
        | f =>
          rw [show ((EvPart.f.byte.toNat : Nat) : Int) = 102 from rfl] at hnx cM2
          have hmb : 1 ≤ e.fuel ∧ e.fuel ≤ 65536 := hmay
          have hnn : ((e.fuel.toNat : Nat) : Int) = e.fuel := Int.toNat_of_nonneg (by omega)
          have cC := fun (W : World) (hA : BOwn w.heap.size v0 xs W) (hs : w.heap.size ≤ W.heap.size) => wcount_any w.heap.size v0 xs e.fuel.toNat W hA hs (by omega) (by have := hxl.out; omega)
          rw [hnn] at cC
          clear hmb hnn
          go_wp2_with (first
            | (go_at_call 48; refine (cC w3 hA3.own hA3.size).mono ?_; rintro en w5 ⟨v5, rfl, hO5, hB5⟩; have hA5 := hA3.write hB5 hO5)
            | (go_at_call 46; refine cM2.mono ?_; rintro en w3 ⟨rfl, hA3⟩; have hc3 := hBX hA3))
          go_roundw
          case rel => exact hrelE hmay hA5
          case measure => exact hless hA5
        | t =>
          rw [show ((EvPart.t.byte.toNat : Nat) : Int) = 116 from rfl] at hnx cM2
          have hmb : 0 ≤ e.time ∧ e.time ≤ 1125899906842624 := hmay
          have hnn : ((e.time.toNat : Nat) : Int) = e.time := Int.toNat_of_nonneg (by omega)
          have cC := fun (W : World) (hA : BOwn w.heap.size v0 xs W) (hs : w.heap.size ≤ W.heap.size) => wcount_any w.heap.size v0 xs e.time.toNat W hA hs (by omega) (by have := hxl.out; omega)
          rw [hnn] at cC
          clear hmb hnn
          go_wp2_with (first
            | (go_at_call 48; refine (cC w3 hA3.own hA3.size).mono ?_; rintro en w5 ⟨v5, rfl, hO5, hB5⟩; have hA5 := hA3.write hB5 hO5)
            | (go_at_call 46; refine cM2.mono ?_; rintro en w3 ⟨rfl, hA3⟩; have hc3 := hBX hA3))
          go_roundw
          case rel => exact hrelE hmay hA5
          case measure => exact hless hA5
        | p =>
          rw [show ((EvPart.p.byte.toNat : Nat) : Int) = 112 from rfl] at hnx cM2
          have hmb : e.place.length ≤ 192 ∧ ∀ n ∈ e.place, 0 ≤ n ∧ n ≤ 2147483647 := hmay
          replace hmb := Aside0.mk hmb
          have hpl := cntE_len 9 e.place.length (by omega) (by have := hmb.out.1; show _ < 9223372036854775808; omega)
          replace hpl := Aside0.mk hpl
          have hple : Aside0 ((placeE e.place).length ≤ 960) := ⟨by have := placeE_len e.place hmb.out.2; have := hmb.out.1; omega⟩
          go_wp2_with (first
            | (go_at_call 48; refine (wcount_any w.heap.size v0 xs e.place.length w3 hA3.own hA3.size (by have := hmb.out.1; omega) (by have := hxl.out; omega)).mono ?_; rintro en w5 ⟨v5, rfl, hO5, hB5⟩; have hA5 := hA3.write hB5 hO5; have hc5 := hBX hA5)
            | (go_at_call 46; refine cM2.mono ?_; rintro en w3 ⟨rfl, hA3⟩; have hc3 := hBX hA3))
          go_loopw [5, 9, 62] (fun b x9 q wr3 => ∃ (i : Nat) (v6 : Value), q = .int .i64 i ∧ v6 = b ∧ i ≤ e.place.length ∧ EncAt w #[.int .i64 e.kind, .slice PA e.place.length pc, .int .i64 e.time, .bool e.out.fine, .int .i64 e.out.value.kind, .bool e.out.value.truth, .bool e.out.value.neg, .string e.out.value.digits, .int .i64 e.out.value.exp, .string e.out.value.text, .slice A e.out.value.list.length lc, .slice B e.out.value.fields.length ld, .string ⟨e.out.err.toArray⟩, .string ⟨e.out.cause.toArray⟩, .string ⟨e.machine.toArray⟩, .string ⟨e.input.toArray⟩, .int .i64 e.fuel] s (j + 1) v6 (xs ++ cntE e.place.length ++ placeE (e.place.take i)) wr3) (fun _ _ q _ => e.place.length - (intOf q).toNat)
          case atStart => exact ⟨0, v5, rfl, rfl, Nat.zero_le _, by rw [List.take_zero, placeE, List.append_nil]; exact hA5⟩
          case round =>
            obtain ⟨i, v6, rfl, hv6, hi, hA6⟩ := hrel
            subst hv6
            by_cases hil : i < e.place.length
            · have hilI : (i : Int) < (e.place.length : Int) := by omega
              obtain ⟨ad, hPA, hcell⟩ := (hR.below hA6.low).at_ (i : Int) (by omega) (by omega)
              subst hPA
              rw [Int.toNat_natCast] at hcell
              have hrd : rd e.place (i : Int) = e.place.getD i 0 := by unfold rd; rw [Int.toNat_natCast]
              rw [hrd] at hcell
              have hx : e.place[i]? = some (e.place.getD i 0) := by rw [List.getD_eq_getElem?_getD, List.getElem?_eq_getElem hil]; rfl
              have hxb := hmb.out.2 _ (List.mem_of_getElem? hx)
              have hsn : xs ++ cntE e.place.length ++ placeE (e.place.take (i + 1)) = xs ++ cntE e.place.length ++ placeE (e.place.take i) ++ cntE (e.place.getD i 0).toNat := by
                rw [List.take_add_one, hx, Option.toList_some, placeE_snoc, List.append_assoc (xs ++ cntE e.place.length)]
              replace hsn := Aside0.mk hsn
              have hple2 : (placeE (e.place.take i)).length ≤ 960 := by
                have h1 := placeE_len (e.place.take i) (fun n hn => hmb.out.2 n (List.mem_of_mem_take hn))
                have h2 := hmb.out.1
                rw [List.length_take] at h1
                omega
              have hnn : (((e.place.getD i 0).toNat : Nat) : Int) = e.place.getD i 0 := Int.toNat_of_nonneg hxb.1
              have cC := wcount_any w.heap.size v6 (xs ++ cntE e.place.length ++ placeE (e.place.take i)) (e.place.getD i 0).toNat wr hA6.own hA6.size (by omega) (by rw [List.length_append, List.length_append]; have := hxl.out; have := hpl.out; omega)
              rw [hnn] at cC
              replace hx := Aside0.mk hx
              replace hxb := Aside0.mk hxb
              replace hnn := Aside0.mk hnn
              replace hple2 := Aside0.mk hple2
              have hb9 := hmb.out.1
              generalize e.place.getD i 0 = z at *
              go_wp2_with (go_at_call 48; refine cC.mono ?_; rintro en w7 ⟨v7, rfl, hO7, hB7⟩)
              go_roundw
              case rel => exact ⟨i + 1, v7, by go_num, rfl, by omega, by rw [hsn.out]; exact hA6.write hB7 hO7⟩
              case measure => simp [intOf]; omega
            · obtain rfl : i = e.place.length := by omega
              have hA7 : EncAt w #[.int .i64 e.kind, .slice PA e.place.length pc, .int .i64 e.time, .bool e.out.fine, .int .i64 e.out.value.kind, .bool e.out.value.truth, .bool e.out.value.neg, .string e.out.value.digits, .int .i64 e.out.value.exp, .string e.out.value.text, .slice A e.out.value.list.length lc, .slice B e.out.value.fields.length ld, .string ⟨e.out.err.toArray⟩, .string ⟨e.out.cause.toArray⟩, .string ⟨e.machine.toArray⟩, .string ⟨e.input.toArray⟩, .int .i64 e.fuel] s (j + 1) v6 (xs ++ tellP .p e) wr := by
                have h := hA6
                rw [List.take_length, List.append_assoc] at h
                exact h
              go_wp2_with fail
              go_roundw
              case rel => exact hrelE hmay hA7
              case measure => exact hless hA7
        | o =>
          rw [show ((EvPart.o.byte.toNat : Nat) : Int) = 111 from rfl] at hnx cM2
          have hO := fun (W : World) (hA : BOwn w.heap.size v0 xs W) (hl : Below w.heap.size w W) => wout_any w v0 xs e.out W _ hA hl hKv hP.out.env.facts hf.out.wt hf.out.ints (by have := hxl.out; omega) hmay
          go_wp2_with (first
            | (go_at_call 49; refine (hO w3 hA3.own hA3.low).mono ?_; rintro en w5 ⟨v5, rfl, hO5, hB5⟩; have hA5 := hA3.write hB5 hO5)
            | (go_at_call 46; refine cM2.mono ?_; rintro en w3 ⟨rfl, hA3⟩; have hc3 := hBX hA3))
          go_roundw
          case rel => exact hrelE hmay hA5
          case measure => exact hless hA5
        -- parts: end
      · have cM2 : Calls Tryz.prog 46 #[.int .i32 (c.byte.toNat : Int), .agg #[.int .i64 e.kind, .slice PA e.place.length pc, .int .i64 e.time, .bool e.out.fine, .int .i64 e.out.value.kind, .bool e.out.value.truth, .bool e.out.value.neg, .string e.out.value.digits, .int .i64 e.out.value.exp, .string e.out.value.text, .slice A e.out.value.list.length lc, .slice B e.out.value.fields.length ld, .string ⟨e.out.err.toArray⟩, .string ⟨e.out.cause.toArray⟩, .string ⟨e.machine.toArray⟩, .string ⟨e.input.toArray⟩, .int .i64 e.fuel]] W2 fun en w' => en = .returned (.bool false) ∧ Below w.heap.size w w' := by
          refine cM.mono ?_
          rintro en w' ⟨b, rfl, hbi, hb⟩
          have : b = false := by cases b with
            | false => rfl
            | true => exact absurd (hbi.1 rfl) hmay
          subst this
          exact ⟨rfl, hA2.low.trans (hb.mono hA2.size)⟩
        have hno : Aside0 (¬ encs e) := ⟨fun h => hmay (hencs.out.1 h c (List.mem_of_getElem? hc))⟩
        clear cM hless hrelE
        generalize c.byte.toNat = cn at *
        go_wp2_with (go_at_call 46; refine cM2.mono ?_; rintro en w3 ⟨rfl, hL3⟩; have hev3 := (hP.out.below hL3).cell; replace hL3 := Aside0.mk hL3)
        go_quiet (fail)
        go_wp2_with fail
        go_ret2
        exact .inr ⟨hno.out, rfl, pw_below_drewN hL3.out _⟩
    · obtain rfl : j = ps.length := by omega
      have hnx : ∀ ty, (Instr.next (.pointer (some ⟨w.heap.size + 1 + 1, 0, none⟩)) true ty).run Tryz.prog wr = _ := fun ty => Lib.run_next_end_at wr (w.heap.size + 2) s ps.length ty hA.it (by rw [hsz.out]; omega)
      have hfin : Aside0 (encs e ∧ encB e = xs) := ⟨by
        have h1 := hm.out
        have h2 := hxs.out
        rw [List.take_length] at h1 h2
        exact ⟨hencs.out.2 h1, by rw [hencB.out, h2]⟩⟩
      go_wp2_with fail
      go_ret2
      exact .inl ⟨hfin.out.1, _, rfl, by rw [hfin.out.2]; exact hA.own, hA.low⟩
/-- **record.Encode.** -/
theorem enc_any (E : ErrV) (a : Addr) (e : Evn) (w : World) (cs : List Value) (hK : EvK w e cs) (hP : REnv E a w) (hf : EvOK e) :
    Calls Tryz.prog 23 #[.agg cs.toArray] w fun en w' => EncGives a w e en w' := by
  by_cases hk : 1 ≤ e.kind ∧ e.kind ≤ 7
  · exact enc_ok E a e w cs hK hP hk hf
  · exact enc_bad E a e w cs hK hP hk
end Go.Proofs.YtkdeleafgailhaaGreatDoor
end
section
set_option linter.unusedVariables false
set_option linter.unusedSimpArgs false
namespace Go.Proofs.YtkdeleafgailhaaGreatDoor
open Go Go.RowKit Go.Proofs.YtkdeleafgailhaaGreatDoorW.PrintWords

def LikeOK (x : JV) : Prop := ∀ (y : JV) (w : World) (cs cs' : List Value), kV.K w x cs → kV.K w y cs' →
  Calls Tryz.prog 17 #[.agg cs.toArray, .agg cs'.toArray] w fun e w' => ∃ b : Bool, e = .returned (.bool b) ∧ (b = true ↔ x = y) ∧ Below w.heap.size w w'

theorem bytes_beq_no {a b : ByteArray} (h : a ≠ b) : (a.toList == b.toList) = false := by rw [bytes_beq, decide_eq_false h]
theorem bytes_bne {a b : ByteArray} (h : a ≠ b) : (a.toList != b.toList) = true := by
  show (!(a.toList == b.toList)) = true
  rw [bytes_beq_no h]; rfl

theorem bytes_tne {a b : ByteArray} (h : a ≠ b) : ¬ (a.toList = b.toList) := by
  intro e
  have := bytes_beq_no h
  rw [e] at this
  simp at this
set_option maxRecDepth 100000 in
set_option maxHeartbeats 8000000 in
/-- Values whose heads differ. -/
theorem like_no (w : World) (k k' : Int) (t ng t' ng' : Bool) (ds tx ds' tx' : ByteArray) (ex ex' : Int) (A B A' B' : Option Addr) (n c m d n' c' m' d' : Nat)
    (h : ¬ (k = k' ∧ t = t' ∧ ng = ng' ∧ ds = ds' ∧ ex = ex' ∧ tx = tx' ∧ n = n' ∧ m = m')) :
    Calls Tryz.prog 17 #[.agg #[.int .i64 k, .bool t, .bool ng, .string ds, .int .i64 ex, .string tx, .slice A n c, .slice B m d], .agg #[.int .i64 k', .bool t', .bool ng', .string ds', .int .i64 ex', .string tx', .slice A' n' c', .slice B' m' d']] w fun e w' => e = .returned (.bool false) ∧ Below w.heap.size w w' := by
  have hB0 := ((Below.refl _ w).alloc (Nat.le_refl _) (.cells #[.int .i64 k, .bool t, .bool ng, .string ds, .int .i64 ex, .string tx, .slice A n c, .slice B m d] 27)).alloc (by simp) (.cells #[.int .i64 k', .bool t', .bool ng', .string ds', .int .i64 ex', .string tx', .slice A' n' c', .slice B' m' d'] 27)
  by_cases hk : k = k'
  · subst hk
    by_cases ht : t = t'
    · subst ht
      by_cases hng : ng = ng'
      · subst hng
        by_cases hds : ds = ds'
        · subst hds
          by_cases hex : ex = ex'
          · subst hex
            by_cases htx : tx = tx'
            · subst htx
              by_cases hn : n = n'
              · subst hn
                have hm : m ≠ m' := fun e => h ⟨rfl, rfl, rfl, rfl, rfl, rfl, rfl, e⟩
                have b1 : ((m : Int) != (m' : Int)) = true := by simp; omega
                go_enter Tryz.func17, Tryz.ntmps17
                go_wp2_with fail
                all_goals go_ret
                all_goals exact ⟨rfl, ((Below.refl _ w).alloc (Nat.le_refl _) _).alloc (by simp) _⟩
              · have b1 : ((n : Int) != (n' : Int)) = true := by simp; omega
                go_enter Tryz.func17, Tryz.ntmps17
                go_wp2_with fail
                all_goals go_ret
                all_goals exact ⟨rfl, ((Below.refl _ w).alloc (Nat.le_refl _) _).alloc (by simp) _⟩
            · have b1 := bytes_bne htx
              have b2 := bytes_tne htx
              go_enter Tryz.func17, Tryz.ntmps17
              go_wp2_with fail
              all_goals go_ret
              all_goals exact ⟨rfl, ((Below.refl _ w).alloc (Nat.le_refl _) _).alloc (by simp) _⟩
          · have b1 : (ex == ex') = false := by simpa using hex
            go_enter Tryz.func17, Tryz.ntmps17
            go_wp2_with fail
            all_goals go_ret
            all_goals exact ⟨rfl, ((Below.refl _ w).alloc (Nat.le_refl _) _).alloc (by simp) _⟩
        · have b1 := bytes_beq_no hds
          go_enter Tryz.func17, Tryz.ntmps17
          go_wp2_with fail
          all_goals go_ret
          all_goals exact ⟨rfl, ((Below.refl _ w).alloc (Nat.le_refl _) _).alloc (by simp) _⟩
      · have b1 : (ng == ng') = false := by simpa using hng
        go_enter Tryz.func17, Tryz.ntmps17
        go_wp2_with fail
        all_goals go_ret
        all_goals exact ⟨rfl, ((Below.refl _ w).alloc (Nat.le_refl _) _).alloc (by simp) _⟩
    · have b1 : (t != t') = true := by simpa using ht
      go_enter Tryz.func17, Tryz.ntmps17
      go_wp2_with fail
      all_goals go_ret
      all_goals exact ⟨rfl, ((Below.refl _ w).alloc (Nat.le_refl _) _).alloc (by simp) _⟩
  · have b1 : (k != k') = true := by simpa using hk
    go_enter Tryz.func17, Tryz.ntmps17
    go_wp2_with fail
    all_goals go_ret
    all_goals exact ⟨rfl, ((Below.refl _ w).alloc (Nat.le_refl _) _).alloc (by simp) _⟩

end Go.Proofs.YtkdeleafgailhaaGreatDoor
end
section
set_option linter.unusedVariables false
set_option linter.unusedSimpArgs false
namespace Go.Proofs.YtkdeleafgailhaaGreatDoor
open Go Go.RowKit Go.Proofs.YtkdeleafgailhaaGreatDoorW.PrintWords

set_option maxRecDepth 100000 in
set_option maxHeartbeats 8000000 in
/-- Values whose heads are one. -/
theorem like_go (w : World) (k : Int) (t ng : Bool) (ds tx : ByteArray) (ex : Int) (A B A' B' : Option Addr) (n m c d c' d' : Nat) (l l' : List JV) (f f' : List JF)
    (hcl : n ≤ c) (hcl' : n ≤ c') (hcf : m ≤ d) (hcf' : m ≤ d')
    (hCl : kV.C w A n l) (hCl' : kV.C w A' n l') (hCf : kF.C w B m f) (hCf' : kF.C w B' m f') (hl : ∀ y ∈ l, LikeOK y) (hf : ∀ g ∈ f, LikeOK g.value) :
    Calls Tryz.prog 17 #[.agg #[.int .i64 k, .bool t, .bool ng, .string ds, .int .i64 ex, .string tx, .slice A n c, .slice B m d], .agg #[.int .i64 k, .bool t, .bool ng, .string ds, .int .i64 ex, .string tx, .slice A' n c', .slice B' m d']] w fun e w' => ∃ b : Bool, e = .returned (.bool b) ∧ (b = true ↔ l = l' ∧ f = f') ∧ Below w.heap.size w w' := by
  have hmxl := hCl.2.1
  have hmxf := hCf.2.1
  have hnl := Aside0.mk hCl.1
  have hnl' := Aside0.mk hCl'.1
  have hnf := Aside0.mk hCf.1
  have hnf' := Aside0.mk hCf'.1
  obtain ⟨W0, hW0⟩ : ∃ W0, (w.alloc (.cells #[.int .i64 k, .bool t, .bool ng, .string ds, .int .i64 ex, .string tx, .slice A n c, .slice B m d] 27)).alloc (.cells #[.int .i64 k, .bool t, .bool ng, .string ds, .int .i64 ex, .string tx, .slice A' n c', .slice B' m d'] 27) = W0 := ⟨_, rfl⟩
  have hB0 : Below w.heap.size w W0 := by rw [← hW0]; exact ((Below.refl _ w).alloc (Nat.le_refl _) _).alloc (by simp) _
  have hk : W0.heap[w.heap.size]? = some (.cells #[.int .i64 k, .bool t, .bool ng, .string ds, .int .i64 ex, .string tx, .slice A n c, .slice B m d] 27 (0, 0)) := by
    rw [← hW0]; exact (heap_alloc_old _ _ (by simp)).trans (heap_alloc_new w _)
  have hj : W0.heap[w.heap.size + 1]? = some (.cells #[.int .i64 k, .bool t, .bool ng, .string ds, .int .i64 ex, .string tx, .slice A' n c', .slice B' m d'] 27 (0, 0)) := by
    rw [← hW0]
    have := heap_alloc_new (w.alloc (.cells #[.int .i64 k, .bool t, .bool ng, .string ds, .int .i64 ex, .string tx, .slice A n c, .slice B m d] 27)) (.cells #[.int .i64 k, .bool t, .bool ng, .string ds, .int .i64 ex, .string tx, .slice A' n c', .slice B' m d'] 27)
    simpa using this
  have hc0 := cellAll hk
  have hd0 := cellAll hj
  have hCl0 := Kd.C_below hCl hB0
  have hCl0' := Kd.C_below hCl' hB0
  have hCf0 := Kd.C_below hCf hB0
  have hCf0' := Kd.C_below hCf' hB0
  clear hCl hCl' hCf hCf'
  replace hk := Aside0.mk hk
  replace hj := Aside0.mk hj
  replace hB0 := Aside0.mk hB0
  go_enter Tryz.func17, Tryz.ntmps17
  go_wp2_with fail
  go_loopw [6] (fun i wr => ∃ j : Nat, i = .int .i64 j ∧ j ≤ n ∧ Aside0 (l.take j = l'.take j) ∧ Below W0.heap.size W0 wr) (fun i _ => n - (intOf i).toNat)
  case atStart => exact ⟨0, rfl, Nat.zero_le _, ⟨rfl⟩, Below.refl _ _⟩
  case round =>
    obtain ⟨j, rfl, hjl, hT, hB⟩ := hrel
    have hbr := (hB.block w.heap.size (blk_lt hk.out)).trans hk.out
    have hcr := cellAll hbr
    have hbr2 := (hB.block (w.heap.size + 1) (blk_lt hj.out)).trans hj.out
    have hdr := cellAll hbr2
    replace hbr := Aside0.mk hbr
    replace hbr2 := Aside0.mk hbr2
    clear hc0 hd0
    by_cases hlt : j < n
    · obtain ⟨ad, x, A6, c6, A7, c7, rfl, hx, hcs, l6, g6, l7, g7⟩ := at_V (Kd.C_below hCl0 hB) j hlt
      obtain ⟨ad', x', A6', c6', A7', c7', rfl, hx', hcs', l6', g6', l7', g7'⟩ := at_V (Kd.C_below hCl0' hB) j hlt
      have hK := kV_mkK l6 g6 l7 g7
      have hK' := kV_mkK l6' g6' l7' g7'
      unfold JV.cells at hcs hK hcs' hK'
      obtain ⟨q0, q1, q2, q3, q4, q5, q6, q7, _⟩ := hcs
      obtain ⟨p0, p1, p2, p3, p4, p5, p6, p7, _⟩ := hcs'
      have cL := hl x (List.mem_of_getElem? hx) x' wr.drew _ _ (kV.K_below (Below.refl _ wr).drew hK) (kV.K_below (Below.refl _ wr).drew hK')
      have hsn : Aside0 (x = x' → l.take (j + 1) = l'.take (j + 1)) := ⟨fun e => by rw [List.take_add_one, List.take_add_one, hx, hx', hT.out, e]⟩
      have hsx : Aside0 (l = l' → x = x') := ⟨fun e => by rw [e, hx'] at hx; injection hx with hx; exact hx.symm⟩
      replace hx := Aside0.mk hx
      replace hx' := Aside0.mk hx'
      clear hK hK'
      go_wp2_with fail
      go_still_tail 10, (by kernel_rfl)
      change wpList _ _ _ _ _ wr.drew
      go_wp2_with (go_at_call 17; refine cL.mono ?_; rintro e w1 ⟨b, rfl, hbx, hb4⟩)
      all_goals (have hb5 := (Below.refl wr.heap.size wr).drew.trans hb4)
      all_goals (have hB6 := hB.trans (hb5.mono hB.size))
      all_goals (first
        | (have hbf : b = false := (by have hh : (!b) = true := (by assumption); simpa using hh)
           go_ret
           exact ⟨false, rfl, ⟨fun h => (by cases h), fun h => absurd (hbx.2 (hsx.out h.1)) (by rw [hbf]; simp)⟩, hB0.out.trans (hB6.mono hB0.out.size)⟩)
        | (have hbt : b = true := (by have hh : (!b) = false := (by assumption); simpa using hh)
           refine ⟨⟨j + 1, by go_num, by omega, ⟨hsn.out (hbx.1 hbt)⟩, hB6⟩, ?_⟩
           simp [intOf]; omega))
    · obtain rfl : j = n := by omega
      have hlt2 : decide ((j : Int) < (j : Int)) = false := by simp
      have hTl : Aside0 (l = l') := ⟨by have := hT.out; rw [List.take_of_length_le (by rw [hnl.out]; exact Nat.le_refl _), List.take_of_length_le (by rw [hnl'.out]; exact Nat.le_refl _)] at this; exact this⟩
      go_wp2_with fail
      clear hT
      go_loopw [8] (fun i wr2 => ∃ q : Nat, i = .int .i64 q ∧ q ≤ m ∧ Aside0 (f.take q = f'.take q) ∧ Below W0.heap.size W0 wr2) (fun i _ => m - (intOf i).toNat)
      case atStart => exact ⟨0, rfl, Nat.zero_le _, ⟨rfl⟩, hB⟩
      case round =>
        obtain ⟨q, rfl, hqm, hT, hB2⟩ := hrel
        have hbr3 := (hB2.block w.heap.size (blk_lt hk.out)).trans hk.out
        have hcr3 := cellAll hbr3
        have hbr4 := (hB2.block (w.heap.size + 1) (blk_lt hj.out)).trans hj.out
        have hdr4 := cellAll hbr4
        replace hbr3 := Aside0.mk hbr3
        replace hbr4 := Aside0.mk hbr4
        clear hcr hdr
        by_cases hlt3 : q < m
        · obtain ⟨ad, x, A6, c6, A7, c7, rfl, hx, hcs, l6, g6, l7, g7⟩ := at_F (Kd.C_below hCf0 hB2) q hlt3
          obtain ⟨ad', x', A6', c6', A7', c7', rfl, hx', hcs', l6', g6', l7', g7'⟩ := at_F (Kd.C_below hCf0' hB2) q hlt3
          have hK := kV_mkK l6 g6 l7 g7
          have hK' := kV_mkK l6' g6' l7' g7'
          unfold JV.cells at hcs hK hcs' hK'
          have cL := hf x (List.mem_of_getElem? hx) x'.value wr.drew _ _ (kV.K_below (Below.refl _ wr).drew hK) (kV.K_below (Below.refl _ wr).drew hK')
          have hfe : Aside0 (x.name = x'.name → x.value = x'.value → x = x') := ⟨fun e1 e2 => by
            obtain ⟨xn, xv⟩ := x
            obtain ⟨xn', xv'⟩ := x'
            simp only [JF.name, JF.value] at e1 e2
            rw [e1, e2]⟩
          have hsn : Aside0 (x = x' → f.take (q + 1) = f'.take (q + 1)) := ⟨fun e => by rw [List.take_add_one, List.take_add_one, hx, hx', hT.out, e]⟩
          have hsx : Aside0 (f = f' → x = x') := ⟨fun e => by rw [e, hx'] at hx; injection hx with hx; exact hx.symm⟩
          have hel := Aside0.mk hcs
          have hel' := Aside0.mk hcs'
          obtain ⟨q0, q1, q2, q3, q4, q5, q6, q7, q8, _⟩ := hcs
          obtain ⟨p0, p1, p2, p3, p4, p5, p6, p7, p8, _⟩ := hcs'
          replace hx := Aside0.mk hx
          replace hx' := Aside0.mk hx'
          clear hK hK'
          go_wp2_with fail
          go_still_tail 12, (by kernel_rfl)
          change wpList _ _ _ _ _ wr.drew
          go_wp2_with (go_at_call 17; refine cL.mono ?_; rintro e w1 ⟨b, rfl, hbx, hb4⟩; have hb5 := (Below.refl wr.heap.size wr).drew.trans hb4; have hB6 := hB2.trans (hb5.mono hB2.size); have hcr5 := cellAll ((hB6.block w.heap.size (blk_lt hk.out)).trans hk.out); have hdr5 := cellAll ((hB6.block (w.heap.size + 1) (blk_lt hj.out)).trans hj.out); have hn5 := pw_cell_below hb5 q0; have hn5' := pw_cell_below hb5 p0; clear hcr3 hdr4 q0 p0)
          cases b with
          | false =>
            go_quiet (fail)
            go_wp2_with fail
            go_ret
            exact ⟨false, rfl, ⟨fun h => (by cases h), fun h => absurd (hbx.2 (by rw [hsx.out h.2])) (by simp)⟩, pw_below_drewN (hB0.out.trans (hB6.mono hB0.out.size)) _⟩
          | true =>
            by_cases hnm : x.name = x'.name
            · rw [hnm] at hn5
              go_quiet (fail)
              go_wp2_with fail
              refine ⟨⟨q + 1, by go_num, by omega, ⟨hsn.out (hfe.out hnm (hbx.1 rfl))⟩, pw_below_drewN hB6 _⟩, ?_⟩
              simp [intOf]; omega
            · have b1 := bytes_bne hnm
              have b2 := bytes_tne hnm
              have b3 := bytes_beq_no hnm
              go_quiet (fail)
              go_wp2_with fail
              go_ret
              have hno : ¬ (f = f') := fun h => hnm (by rw [hsx.out h])
              exact .inl ⟨rfl, fun _ => hno, pw_below_drewN (hB0.out.trans (hB6.mono hB0.out.size)) _⟩
        · obtain rfl : q = m := by omega
          have hlt5 : decide ((q : Int) < (q : Int)) = false := by simp
          have hTf : Aside0 (f = f') := ⟨by have := hT.out; rw [List.take_of_length_le (by rw [hnf.out]; exact Nat.le_refl _), List.take_of_length_le (by rw [hnf'.out]; exact Nat.le_refl _)] at this; exact this⟩
          go_wp2_with fail
          go_ret
          exact ⟨true, rfl, ⟨fun _ => ⟨hTl.out, hTf.out⟩, fun _ => rfl⟩, hB0.out.trans (hB2.mono hB0.out.size)⟩

theorem like_step (x : JV) (hl : ∀ y ∈ x.list, LikeOK y) (hf : ∀ g ∈ x.fields, LikeOK g.value) : LikeOK x := by
  intro y w cs cs' hK hK'
  obtain ⟨A, c, B, d, rfl, hV⟩ := VC.of hK
  obtain ⟨A', c', B', d', rfl, hV'⟩ := VC.of hK'
  obtain ⟨k, t, ng, ds, ex, tx, l, f⟩ := x
  obtain ⟨k', t', ng', ds', ex', tx', l', f'⟩ := y
  obtain ⟨_, hlc, hCl, hfc, hCf⟩ := hV
  obtain ⟨_, hlc', hCl', hfc', hCf'⟩ := hV'
  unfold JV.cells
  simp only [JV.kind, JV.truth, JV.neg, JV.digits, JV.exp, JV.text, JV.list, JV.fields] at *
  by_cases h : k = k' ∧ t = t' ∧ ng = ng' ∧ ds = ds' ∧ ex = ex' ∧ tx = tx' ∧ l.length = l'.length ∧ f.length = f'.length
  · obtain ⟨rfl, rfl, rfl, rfl, rfl, rfl, h1, h2⟩ := h
    rw [← h1] at hlc' hCl' ⊢
    rw [← h2] at hfc' hCf' ⊢
    refine (like_go w k t ng ds tx ex A B A' B' l.length f.length c d c' d' l l' f f' hlc hlc' hfc hfc' hCl hCl' hCf hCf' hl hf).mono ?_
    rintro e w' ⟨b, rfl, hb, hB⟩
    refine ⟨b, rfl, hb.trans ⟨fun h => by rw [h.1, h.2], fun h => ?_⟩, hB⟩
    injection h with _ _ _ _ _ _ h3 h4
    exact ⟨h3, h4⟩
  · refine (like_no w k k' t ng t' ng' ds tx ds' tx' ex ex' A B A' B' l.length c f.length d l'.length c' f'.length d' h).mono ?_
    rintro e w' ⟨rfl, hB⟩
    refine ⟨false, rfl, ⟨fun h => (by cases h), fun e => absurd ?_ h⟩, hB⟩
    injection e with e1 e2 e3 e4 e5 e6 e7 e8
    exact ⟨e1, e2, e3, e4, e5, e6, by rw [e7], by rw [e8]⟩
theorem like_all : ∀ (n : Nat) (x : JV), x.wt ≤ n → LikeOK x
  | 0, .mk k t ng ds ex tx l f, h => by rw [JV.wt] at h; omega
  | n + 1, .mk k t ng ds ex tx l f, h => by
    rw [JV.wt] at h
    exact like_step _ (fun y hy => like_all n y (by have := wt_memL hy; simp only [JV.list] at this; omega)) (fun g hg => like_all n _ (by have := wt_memF hg; simp only [JV.fields] at this; omega))
/-- **voyageref02.Like**: are they one? -/
theorem like_any (x : JV) : LikeOK x := like_all _ x (Nat.le_refl _)
end Go.Proofs.YtkdeleafgailhaaGreatDoor
end
section
set_option linter.unusedVariables false
set_option linter.unusedSimpArgs false
namespace Go.Proofs.YtkdeleafgailhaaGreatDoor
open Go Go.RowKit Go.Proofs.YtkdeleafgailhaaGreatDoorW.PrintWords

def foll (s : ByteArray) (i lo hi : Nat) : Bool := decide (i < s.size) && (decide (lo ≤ byteAt s i) && decide (byteAt s i ≤ hi))
def letLo (c : Nat) : Nat := if c = 224 then 160 else if c = 240 then 144 else 128
def letHi (c : Nat) : Nat := if c = 237 then 159 else if c = 244 then 143 else 191
/-- How many bytes the letter at a place has; 0: none begins there. -/
def letterN (s : ByteArray) (i : Nat) : Nat :=
  if byteAt s i < 128 then 1
  else if byteAt s i < 194 ∨ 244 < byteAt s i then 0
  else if byteAt s i < 224 ∧ foll s (i + 1) (letLo (byteAt s i)) (letHi (byteAt s i)) = true then 2
  else if 224 ≤ byteAt s i ∧ byteAt s i < 240 ∧ foll s (i + 1) (letLo (byteAt s i)) (letHi (byteAt s i)) = true ∧ foll s (i + 2) 128 191 = true then 3
  else if 240 ≤ byteAt s i ∧ foll s (i + 1) (letLo (byteAt s i)) (letHi (byteAt s i)) = true ∧ foll s (i + 2) 128 191 = true ∧ foll s (i + 3) 128 191 = true then 4
  else 0

set_option maxRecDepth 100000 in
set_option maxHeartbeats 4000000 in
theorem follows_any (s : ByteArray) (i lo hi : Nat) (w : World) (hs : s.size ≤ 9223372036854775807) :
    Calls Tryz.prog 103 #[.string s, .int .i64 i, .int .u8 lo, .int .u8 hi] w fun e w' => e = .returned (.bool (foll s i lo hi)) ∧ w' = w := by
  unfold foll
  by_cases h : i < s.size
  · have h1 : (i : Int) < (s.size : Int) := by omega
    have hb : (s[i]'h).toNat = byteAt s i := by unfold byteAt; rw [dif_pos h]
    have hd : decide (i < s.size) = true := decide_eq_true h
    rw [hd, Bool.true_and]
    by_cases h2 : lo ≤ byteAt s i
    · have h3 : (lo : Int) ≤ ((s[i]'h).toNat : Int) := by omega
      rw [decide_eq_true h2, Bool.true_and]
      go_enter Tryz.func103, Tryz.ntmps103
      go_wp2_with fail
      go_ret
      refine ⟨?_, rfl⟩
      simp [hb]
    · have h3 : ¬ (lo : Int) ≤ ((s[i]'h).toNat : Int) := by omega
      rw [decide_eq_false h2, Bool.false_and]
      go_enter Tryz.func103, Tryz.ntmps103
      go_wp2_with fail
      go_ret
      exact ⟨rfl, rfl⟩
  · have h1 : ¬ (i : Int) < (s.size : Int) := by omega
    rw [decide_eq_false h, Bool.false_and]
    go_enter Tryz.func103, Tryz.ntmps103
    go_wp2_with fail
    go_ret
    exact ⟨rfl, rfl⟩

set_option maxRecDepth 100000 in
set_option maxHeartbeats 8000000 in
theorem letter_any (s : ByteArray) (i : Nat) (w : World) (hs : s.size ≤ 4611686018427387904) (hi : i < s.size) :
    Calls Tryz.prog 73 #[.string s, .int .i64 i] w fun e w' => e = .returned (.int .i64 (letterN s i)) ∧ w' = w := by
  have hb : (s[i]'hi).toNat = byteAt s i := by unfold byteAt; rw [dif_pos hi]
  have hi2 : (i : Int) < (s.size : Int) := by omega
  have cF := fun (j lo hi : Nat) (W : World) => follows_any s j lo hi W (by omega)
  unfold letterN
  generalize hc : byteAt s i = c at *
  by_cases h1 : c < 128
  · rw [if_pos h1]
    have b1 : (c : Int) < 128 := by omega
    go_enter Tryz.func73, Tryz.ntmps73
    go_wp2_with fail
    go_ret
    exact ⟨rfl, rfl⟩
  rw [if_neg h1]
  have b1 : ¬ (c : Int) < 128 := by omega
  by_cases h2 : c < 194 ∨ 244 < c
  · rw [if_pos h2]
    have b2 : (c : Int) < 194 ∨ (¬ (c : Int) < 194 ∧ (244 : Int) < (c : Int)) := by omega
    rcases b2 with b2 | ⟨b2, b3⟩
    all_goals go_enter Tryz.func73, Tryz.ntmps73
    all_goals go_wp2_with fail
    all_goals go_ret
    all_goals exact ⟨rfl, rfl⟩
  rw [if_neg h2]
  have b2 : ¬ (c : Int) < 194 := by omega
  have b3 : ¬ (244 : Int) < (c : Int) := by omega
  have c2 := cF (i + 1) (letLo c) (letHi c)
  have c3 := cF (i + 2) 128 191
  have c4 := cF (i + 3) 128 191
  rw [show (((i + 1 : Nat) : Int)) = (i : Int) + 1 by omega] at c2
  rw [show (((i + 2 : Nat) : Int)) = (i : Int) + 2 by omega] at c3
  rw [show (((i + 3 : Nat) : Int)) = (i : Int) + 3 by omega] at c4
  have hcase : (c < 224) ∨ (c = 224) ∨ ((225 ≤ c ∧ c < 237) ∨ (238 ≤ c ∧ c < 240)) ∨ (c = 237) ∨ (c = 240) ∨ (241 ≤ c ∧ c < 244) ∨ (c = 244) := by omega
  generalize foll s (i + 1) (letLo c) (letHi c) = f2 at *
  generalize foll s (i + 2) 128 191 = f3 at *
  generalize foll s (i + 3) 128 191 = f4 at *
  rcases hcase with h | h | h | h | h | h | h
  · have l1 : letLo c = 128 := by unfold letLo; rw [if_neg (by omega), if_neg (by omega)]
    have l2 : letHi c = 191 := by unfold letHi; rw [if_neg (by omega), if_neg (by omega)]
    rw [l1, l2] at c2
    have e224 : ((c : Int) == 224) = false := by simp; omega
    have e237 : ((c : Int) == 237) = false := by simp; omega
    have e240 : ((c : Int) == 240) = false := by simp; omega
    have e244 : ((c : Int) == 244) = false := by simp; omega
    have g1 : (c : Int) < 224 := by omega
    have g2 : ¬ (224 : Int) ≤ (c : Int) := by omega
    have g3 : ¬ (240 : Int) ≤ (c : Int) := by omega
    cases f2 <;> cases f3 <;> cases f4
    all_goals go_enter Tryz.func73, Tryz.ntmps73
    all_goals go_wp2_with (first | (go_at_call 103; have k4 := k3; refine (c4 _).mono ?_; rintro e w' ⟨rfl, rfl⟩) | (go_at_call 103; have k3 := k2; refine (c3 _).mono ?_; rintro e w' ⟨rfl, rfl⟩) | (go_at_call 103; have k2 := trivial; refine (c2 _).mono ?_; rintro e w' ⟨rfl, rfl⟩))
    all_goals go_ret
    all_goals (refine ⟨?_, rfl⟩; congr 2 <;> (try simp) <;> (try omega))
  · have l1 : letLo c = 160 := by unfold letLo; rw [if_pos h]
    have l2 : letHi c = 191 := by unfold letHi; rw [if_neg (by omega), if_neg (by omega)]
    rw [l1, l2] at c2
    subst h
    cases f2 <;> cases f3 <;> cases f4
    all_goals go_enter Tryz.func73, Tryz.ntmps73
    all_goals go_wp2_with (first | (go_at_call 103; have k4 := k3; refine (c4 _).mono ?_; rintro e w' ⟨rfl, rfl⟩) | (go_at_call 103; have k3 := k2; refine (c3 _).mono ?_; rintro e w' ⟨rfl, rfl⟩) | (go_at_call 103; have k2 := trivial; refine (c2 _).mono ?_; rintro e w' ⟨rfl, rfl⟩))
    all_goals go_ret
    all_goals (refine ⟨?_, rfl⟩; congr 2 <;> (try simp) <;> (try omega))
  · have l1 : letLo c = 128 := by unfold letLo; rw [if_neg (by omega), if_neg (by omega)]
    have l2 : letHi c = 191 := by unfold letHi; rw [if_neg (by omega), if_neg (by omega)]
    rw [l1, l2] at c2
    have e224 : ((c : Int) == 224) = false := by simp; omega
    have e237 : ((c : Int) == 237) = false := by simp; omega
    have e240 : ((c : Int) == 240) = false := by simp; omega
    have e244 : ((c : Int) == 244) = false := by simp; omega
    have g1 : ¬ (c : Int) < 224 := by omega
    have g2 : (224 : Int) ≤ (c : Int) := by omega
    have g3 : (c : Int) < 240 := by omega
    have g4 : ¬ (240 : Int) ≤ (c : Int) := by omega
    cases f2 <;> cases f3 <;> cases f4
    all_goals go_enter Tryz.func73, Tryz.ntmps73
    all_goals go_wp2_with (first | (go_at_call 103; have k4 := k3; refine (c4 _).mono ?_; rintro e w' ⟨rfl, rfl⟩) | (go_at_call 103; have k3 := k2; refine (c3 _).mono ?_; rintro e w' ⟨rfl, rfl⟩) | (go_at_call 103; have k2 := trivial; refine (c2 _).mono ?_; rintro e w' ⟨rfl, rfl⟩))
    all_goals go_ret
    all_goals (refine ⟨?_, rfl⟩; congr 2 <;> (try simp) <;> (try omega))
  · have l1 : letLo c = 128 := by unfold letLo; rw [if_neg (by omega), if_neg (by omega)]
    have l2 : letHi c = 159 := by unfold letHi; rw [if_pos h]
    rw [l1, l2] at c2
    subst h
    cases f2 <;> cases f3 <;> cases f4
    all_goals go_enter Tryz.func73, Tryz.ntmps73
    all_goals go_wp2_with (first | (go_at_call 103; have k4 := k3; refine (c4 _).mono ?_; rintro e w' ⟨rfl, rfl⟩) | (go_at_call 103; have k3 := k2; refine (c3 _).mono ?_; rintro e w' ⟨rfl, rfl⟩) | (go_at_call 103; have k2 := trivial; refine (c2 _).mono ?_; rintro e w' ⟨rfl, rfl⟩))
    all_goals go_ret
    all_goals (refine ⟨?_, rfl⟩; congr 2 <;> (try simp) <;> (try omega))
  · have l1 : letLo c = 144 := by unfold letLo; rw [if_neg (by omega), if_pos h]
    have l2 : letHi c = 191 := by unfold letHi; rw [if_neg (by omega), if_neg (by omega)]
    rw [l1, l2] at c2
    subst h
    cases f2 <;> cases f3 <;> cases f4
    all_goals go_enter Tryz.func73, Tryz.ntmps73
    all_goals go_wp2_with (first | (go_at_call 103; have k4 := k3; refine (c4 _).mono ?_; rintro e w' ⟨rfl, rfl⟩) | (go_at_call 103; have k3 := k2; refine (c3 _).mono ?_; rintro e w' ⟨rfl, rfl⟩) | (go_at_call 103; have k2 := trivial; refine (c2 _).mono ?_; rintro e w' ⟨rfl, rfl⟩))
    all_goals go_ret
    all_goals (refine ⟨?_, rfl⟩; congr 2 <;> (try simp) <;> (try omega))
  · have l1 : letLo c = 128 := by unfold letLo; rw [if_neg (by omega), if_neg (by omega)]
    have l2 : letHi c = 191 := by unfold letHi; rw [if_neg (by omega), if_neg (by omega)]
    rw [l1, l2] at c2
    have e224 : ((c : Int) == 224) = false := by simp; omega
    have e237 : ((c : Int) == 237) = false := by simp; omega
    have e240 : ((c : Int) == 240) = false := by simp; omega
    have e244 : ((c : Int) == 244) = false := by simp; omega
    have g1 : ¬ (c : Int) < 224 := by omega
    have g2 : (224 : Int) ≤ (c : Int) := by omega
    have g3 : ¬ (c : Int) < 240 := by omega
    have g4 : (240 : Int) ≤ (c : Int) := by omega
    cases f2 <;> cases f3 <;> cases f4
    all_goals go_enter Tryz.func73, Tryz.ntmps73
    all_goals go_wp2_with (first | (go_at_call 103; have k4 := k3; refine (c4 _).mono ?_; rintro e w' ⟨rfl, rfl⟩) | (go_at_call 103; have k3 := k2; refine (c3 _).mono ?_; rintro e w' ⟨rfl, rfl⟩) | (go_at_call 103; have k2 := trivial; refine (c2 _).mono ?_; rintro e w' ⟨rfl, rfl⟩))
    all_goals go_ret
    all_goals (refine ⟨?_, rfl⟩; congr 2 <;> (try simp) <;> (try omega))
  · have l1 : letLo c = 128 := by unfold letLo; rw [if_neg (by omega), if_neg (by omega)]
    have l2 : letHi c = 143 := by unfold letHi; rw [if_neg (by omega), if_pos h]
    rw [l1, l2] at c2
    subst h
    cases f2 <;> cases f3 <;> cases f4
    all_goals go_enter Tryz.func73, Tryz.ntmps73
    all_goals go_wp2_with (first | (go_at_call 103; have k4 := k3; refine (c4 _).mono ?_; rintro e w' ⟨rfl, rfl⟩) | (go_at_call 103; have k3 := k2; refine (c3 _).mono ?_; rintro e w' ⟨rfl, rfl⟩) | (go_at_call 103; have k2 := trivial; refine (c2 _).mono ?_; rintro e w' ⟨rfl, rfl⟩))
    all_goals go_ret
    all_goals (refine ⟨?_, rfl⟩; congr 2 <;> (try simp) <;> (try omega))
end Go.Proofs.YtkdeleafgailhaaGreatDoor
end
