/- dec.Parse. json's reader: number. json's reader: several: what stands between brackets, parted by commas; each: a closure of value's. -/
import Derived.Test.YtkdeleafgailhaaGreatDoorN14
import Derived.Test.YtkdeleafgailhaaGreatDoorN16
import Derived.Deep.RegionWith
import Derived.Test.YtkdeleafgailhaaGreatDoorN9
import Derived.Deep.Cut
import Derived.Deep.CutRange
import Derived.Deep.RegionHeld3
section
set_option linter.unusedVariables false
set_option linter.unusedSimpArgs false
namespace Go.Proofs.YtkdeleafgailhaaGreatDoor
open Go Go.RowKit Go.Proofs.YtkdeleafgailhaaGreatDoorW.PrintWords

/-! ### what a numeral is at most -/
def NBd (s : ByteArray) (r : Option (Bool × List Int × Int)) : Prop := ∀ neg bs x, r = some (neg, bs, x) → bs.length ≤ s.size ∧ -2199023255552 ≤ x ∧ x ≤ 2199023255552
theorem NBd.none (s : ByteArray) : NBd s none := by
  intro neg bs x h
  cases h
theorem nEnd_b {s : ByteArray} {i : Nat} {neg : Bool} {bs : List Int} {exp sign tens : Int} (h : NB s i bs exp sign tens) : NBd s (nEnd s i neg bs exp sign tens) := by
  unfold nEnd
  obtain ⟨h1, h2, h3, h4, h5, h6, h7, h8⟩ := h
  split
  · intro neg bs x e
    injection e with e
    injection e with _ e
    injection e with e1 e2
    subst e1
    refine ⟨by omega, ?_⟩
    rcases h6 with rfl | rfl <;> omega
  · exact NBd.none s
theorem nDig_b {s : ByteArray} : ∀ (n i : Nat) (neg : Bool) (bs : List Int) (exp sign tens : Int), NB s i bs exp sign tens → isDg (byteAt s i) = true → NBd s (nDig s n i neg bs exp sign tens)
  | 0, _, _, _, _, _, _, _, _ => NBd.none s
  | n + 1, i, neg, bs, exp, sign, tens, h, hd => by
    obtain ⟨hd0, hd1, hd2⟩ := isDg_in hd
    obtain ⟨h1, h2, h3, h4, h5, h6, h7, h8⟩ := h
    have hN : NB s (i + 1) bs exp sign (nFar (10 * tens + ((byteAt s i : Int) - 48))) := ⟨h1, by omega, by omega, by omega, h5, h6, by unfold nFar; omega, by unfold nFar; omega⟩
    rw [nDig]
    split
    · rename_i hx
      exact nDig_b n (i + 1) neg bs exp sign _ hN hx
    · exact nEnd_b hN
theorem nExp_b {s : ByteArray} {i : Nat} {neg : Bool} {bs : List Int} {exp sign : Int} (h : NB s i bs exp sign 0) : NBd s (nExp s i neg bs exp sign) := by
  unfold nExp
  split
  · rename_i hx
    exact nDig_b _ _ _ _ _ _ _ h hx
  · exact NBd.none s
theorem nPow_b {s : ByteArray} {i : Nat} {neg : Bool} {bs : List Int} {exp : Int} (h : NB s i bs exp 1 0) : NBd s (nPow s i neg bs exp) := by
  unfold nPow
  obtain ⟨h1, h2, h3, h4, h5, h6, h7, h8⟩ := h
  split
  · rename_i hc
    have hi : i < s.size := byteAt_in (by omega)
    split
    · rename_i hc2
      have hi2 : i + 1 < s.size := byteAt_in (by omega)
      exact nExp_b ⟨h1, by omega, by omega, by omega, h5, .inr rfl, by omega, by omega⟩
    · split
      · rename_i hc2
        have hi2 : i + 1 < s.size := byteAt_in (by omega)
        exact nExp_b ⟨h1, by omega, by omega, by omega, h5, .inl rfl, by omega, by omega⟩
      · exact nExp_b ⟨h1, by omega, by omega, by omega, h5, .inl rfl, by omega, by omega⟩
  · exact nEnd_b ⟨h1, h2, h3, h4, h5, h6, h7, h8⟩
theorem nFrac_b {s : ByteArray} : ∀ (n i : Nat) (neg : Bool) (bs : List Int) (exp : Int), NB s i bs exp 1 0 → i < s.size → NBd s (nFrac s n i neg bs exp)
  | 0, _, _, _, _, _, _ => NBd.none s
  | n + 1, i, neg, bs, exp, h, hi => by
    obtain ⟨h1, h2, h3, h4, h5, h6, h7, h8⟩ := h
    have hN : NB s (i + 1) (bs ++ [(byteAt s i : Int)]) (exp - 1) 1 0 := ⟨h1, by omega, by rw [List.length_append]; show bs.length + 1 ≤ i + 1; omega, by omega, by omega, .inl rfl, by omega, by omega⟩
    rw [nFrac]
    split
    · rename_i hx
      exact nFrac_b n (i + 1) neg _ _ hN (isDg_in hx).2.2
    · exact nPow_b hN
theorem nBeh_b {s : ByteArray} {i : Nat} {neg : Bool} {bs : List Int} (h : NB s i bs 0 1 0) : NBd s (nBeh s i neg bs) := by
  unfold nBeh
  obtain ⟨h1, h2, h3, h4, h5, h6, h7, h8⟩ := h
  split
  · rename_i hc
    have hi : i < s.size := byteAt_in (by omega)
    split
    · rename_i hx
      exact nFrac_b _ _ _ _ _ ⟨h1, by omega, by omega, by omega, by omega, .inl rfl, by omega, by omega⟩ (isDg_in hx).2.2
    · exact NBd.none s
  · exact nPow_b ⟨h1, h2, h3, h4, h5, h6, h7, h8⟩
theorem nFst_b {s : ByteArray} : ∀ (n i : Nat) (neg : Bool) (bs : List Int), NB s i bs 0 1 0 → i < s.size → NBd s (nFst s n i neg bs)
  | 0, _, _, _, _, _ => NBd.none s
  | n + 1, i, neg, bs, h, hi => by
    obtain ⟨h1, h2, h3, h4, h5, h6, h7, h8⟩ := h
    have hN : NB s (i + 1) (bs ++ [(byteAt s i : Int)]) 0 1 0 := ⟨h1, by omega, by rw [List.length_append]; show bs.length + 1 ≤ i + 1; omega, by omega, by omega, .inl rfl, by omega, by omega⟩
    rw [nFst]
    split
    · rename_i hx
      exact nFst_b n (i + 1) neg _ hN (isDg_in hx).2.2
    · exact nBeh_b hN
theorem nNum_b {s : ByteArray} {i : Nat} {neg : Bool} (hs : s.size ≤ 1048576) : NBd s (nNum s i neg) := by
  unfold nNum
  split
  · have hi : i < s.size := byteAt_in (by omega)
    exact nBeh_b ⟨hs, by omega, by show 1 ≤ i + 1; omega, by omega, by omega, .inl rfl, by omega, by omega⟩
  · split
    · exact NBd.none s
    · have hi : i < s.size := byteAt_in (by omega)
      exact nFst_b _ _ _ _ ⟨hs, by omega, by show 0 ≤ i; omega, by omega, by omega, .inl rfl, by omega, by omega⟩ hi
theorem numeral_b {s : ByteArray} (hs : s.size ≤ 1048576) : NBd s (numeral s) := by
  unfold numeral
  split
  · exact nNum_b hs
  · exact nNum_b hs

/-! ### Parse -/
theorem cell_far (W : World) (p q : Addr) (v : Value) (h : p.block ≠ q.block) : (W.setCell q v).cell? p = W.cell? p := by
  unfold World.cell?
  rw [Below.heap_setCell _ _ _ _ h]
theorem Errs.glob {E : ErrV} {w : World} (h : Errs E w) : 11 < w.heap.size ∧ 12 < w.heap.size := ⟨(var_block (by kernel_rfl) h.number).1, (var_block (by kernel_rfl) h.exponent).1⟩
def decParse (s : ByteArray) : Except PE Dec :=
  match numeral s with
  | none => .error .number
  | some (neg, bs, x) => if (decForm neg (strOfNums bs) x).2 = true then .ok (decForm neg (strOfNums bs) x).1 else .error .exponent
def DPGives (E : ErrV) : Except PE Dec → Ending → Prop
  | .ok d, e => e = .returned (.tuple #[.agg #[.bool d.neg, .string d.digits, .int .i64 d.exp], .nilIface])
  | .error k, e => e = .returned (.tuple #[.agg #[.bool false, .string ⟨#[]⟩, .int .i64 0], ev (E.at_ k)])

set_option maxRecDepth 100000 in
set_option maxHeartbeats 4000000 in
theorem decParse_any (E : ErrV) (s : ByteArray) (w : World) (hs : s.size ≤ 1048576) (hF : Facts w) (hE : Errs E w) :
    Calls Tryz.prog 112 #[.string s] w fun e w' => DPGives E (decParse s) e ∧ Below w.heap.size w w' := by
  have hB0 := (Below.refl _ w).alloc (Nat.le_refl _) (.cells #[.bool false, .string ⟨#[]⟩, .int .i64 0] 23)
  have hnew : (w.alloc (.cells #[.bool false, .string ⟨#[]⟩, .int .i64 0] 23)).heap[w.heap.size]? = some (.cells #[.bool false, .string ⟨#[]⟩, .int .i64 0] 23 (0, 0)) := heap_alloc_new w _
  have cN := numeral_any s (w.alloc (.cells #[.bool false, .string ⟨#[]⟩, .int .i64 0] 23)) hs
  have hbd := numeral_b hs
  unfold decParse
  generalize numeral s = r at cN hbd ⊢
  replace hnew := Aside0.mk hnew
  replace hB0 := Aside0.mk hB0
  cases r with
  | none =>
    go_enter Tryz.func112, Tryz.ntmps112
    go_wp2_with (go_at_call 134; refine cN.mono ?_; rintro e w1 ⟨rfl, hb⟩; have hb' := (hb.block w.heap.size (by simp)).trans hnew.out; have hc := cellAll hb'; have hf := frozenAll hb'; have hB1 := Aside0.mk (hB0.out.trans (hb.mono (by simp))); have hd := (hE.below hB1.out).number_cell; have hd2 := (cell_far w1 ⟨11, 0, none⟩ ⟨w.heap.size, 0, none⟩ (.bool false) (Nat.ne_of_lt hE.glob.1)).trans hd; clear hb')
    go_region
    all_goals (go_wp2_with fail)
    all_goals (refine bodyPost_ret (v := .tuple #[.agg #[.bool false, .string ⟨#[]⟩, .int .i64 0], ev E.number]) (by simp [results, Tryz.results112, go_sem, hc, ev]) rfl ⟨rfl, ?_⟩)
    all_goals (repeat (first | exact hB1.out | refine below_drew ?_ | refine below_set ?_ (Nat.le_refl _)))
  | some r =>
    obtain ⟨neg, bs, x⟩ := r
    obtain ⟨hl, hx0, hx1⟩ := hbd neg bs x rfl
    have hbs : (strOfNums bs).size ≤ 4294967296 := by rw [strOfNums_size]; omega
    have cF := fun W h => form_any neg (strOfNums bs) x W hbs (by omega) (by omega) h
    simp only
    generalize (decForm neg (strOfNums bs) x).1 = D at cF ⊢
    generalize (decForm neg (strOfNums bs) x).2 = ok at cF ⊢
    clear hbd hl hbs
    cases ok with
    | false =>
      rw [if_neg (by simp)]
      go_enter Tryz.func112, Tryz.ntmps112
      go_wp2_with (first
        | (go_at_call 134; refine cN.mono ?_; rintro e w1 ⟨rfl, hb⟩; have hb' := Aside0.mk ((hb.block w.heap.size (by simp)).trans hnew.out); have hB1 := Aside0.mk (hB0.out.trans (hb.mono (by simp))); have hF1 := Aside0.mk (hF.below hB1.out))
        | (go_at_call 66; refine (cF _ hF1.out).mono ?_; rintro e w2 ⟨rfl, hb2⟩; have hb3 := (hb2.block w.heap.size (blk_lt hb'.out)).trans hb'.out; have hc := cellAll hb3; have hf := frozenAll hb3; have hB2 := Aside0.mk (hB1.out.trans (hb2.mono hB1.out.size)); have hb4 := (heap_alloc_old w2 (.cells #[.bool D.neg, .string D.digits, .int .i64 D.exp] 23) (blk_lt hb3)).trans hb3; have hc4 := cellAll hb4; have hf4 := frozenAll hb4; have hB4 := Aside0.mk (hB2.out.alloc hB2.out.size (.cells #[.bool D.neg, .string D.digits, .int .i64 D.exp] 23)); clear hb4; have hd4 := (hE.below hB4.out).exponent_cell; have hd5 := (cell_far (w2.alloc (.cells #[.bool D.neg, .string D.digits, .int .i64 D.exp] 23)) ⟨12, 0, none⟩ ⟨w.heap.size, 0, none⟩ (.bool false) (Nat.ne_of_lt hE.glob.2)).trans hd4; clear hb3 hc hf))
      go_region
      all_goals (go_wp2_with fail)
      all_goals (refine bodyPost_ret (v := .tuple #[.agg #[.bool false, .string ⟨#[]⟩, .int .i64 0], ev E.exponent]) (by simp [results, Tryz.results112, go_sem, hc4, ev]) rfl ⟨rfl, ?_⟩)
      all_goals (have hs2 := hB2.out.size)
      all_goals (repeat (first | exact hB4.out | exact hB2.out | refine below_drew ?_ | refine below_set ?_ (Nat.le_refl _) | refine Below.alloc ?_ (by simp; omega) _))
    | true =>
      rw [if_pos rfl]
      go_enter Tryz.func112, Tryz.ntmps112
      go_wp2_with (first
        | (go_at_call 134; refine cN.mono ?_; rintro e w1 ⟨rfl, hb⟩; have hb' := Aside0.mk ((hb.block w.heap.size (by simp)).trans hnew.out); have hB1 := Aside0.mk (hB0.out.trans (hb.mono (by simp))); have hF1 := Aside0.mk (hF.below hB1.out))
        | (go_at_call 66; refine (cF _ hF1.out).mono ?_; rintro e w2 ⟨rfl, hb2⟩; have hb3 := (hb2.block w.heap.size (blk_lt hb'.out)).trans hb'.out; have hc := cellAll hb3; have hf := frozenAll hb3; have hB2 := Aside0.mk (hB1.out.trans (hb2.mono hB1.out.size)); have hb4 := (heap_alloc_old w2 (.cells #[.bool D.neg, .string D.digits, .int .i64 D.exp] 23) (blk_lt hb3)).trans hb3; have hc4 := cellAll hb4; have hf4 := frozenAll hb4; have hB4 := Aside0.mk (hB2.out.alloc hB2.out.size (.cells #[.bool D.neg, .string D.digits, .int .i64 D.exp] 23)); clear hb4; clear hb3 hc hf))
      all_goals (refine bodyPost_ret (v := .tuple #[.agg #[.bool D.neg, .string D.digits, .int .i64 D.exp], .nilIface]) (by simp [results, Tryz.results112, go_sem, hc4]) rfl ⟨rfl, ?_⟩)
      all_goals (have hs2 := hB2.out.size)
      all_goals (repeat (first | exact hB4.out | exact hB2.out | refine below_drew ?_ | refine below_set ?_ (Nat.le_refl _) | refine Below.alloc ?_ (by simp; omega) _))
end Go.Proofs.YtkdeleafgailhaaGreatDoor
end
section
set_option linter.unusedVariables false
set_option linter.unusedSimpArgs false
namespace Go.Proofs.YtkdeleafgailhaaGreatDoor
open Go Go.RowKit Go.Proofs.YtkdeleafgailhaaGreatDoorW.PrintWords

/-! ### plain -/
def isNum (c : Nat) : Bool := c == 43 || c == 45 || c == 46 || c == 101 || c == 69 || isDg c
def numTo (s : ByteArray) : Nat → Nat → Nat
  | 0, i => i
  | n + 1, i => if i < s.size ∧ isNum (byteAt s i) = true then numTo s n (i + 1) else i
def numberAt (s : ByteArray) (i : Nat) : PR JV :=
  match decParse (s.extract i (numTo s (s.size + 1) i)) with
  | .ok d => .ok (.mk 2 false d.neg d.digits d.exp ⟨#[]⟩ [] []) (numTo s (s.size + 1) i)
  | .error k => .no i k
def numTab : List UInt8 := [43, 45, 46, 101, 69, 48, 49, 50, 51, 52, 53, 54, 55, 56, 57]
set_option maxRecDepth 100000 in
theorem num_index (u : UInt8) : (decide (0 ≤ Lib.indexByte numTab u)) = isNum u.toNat := by
  have key : ∀ n : Fin 256, (decide (0 ≤ Lib.indexByte numTab (UInt8.ofNat n.val))) = isNum n.val := by decide
  have := key ⟨u.toNat, u.toNat_lt⟩
  simpa using this

/-! ### stores elsewhere -/
theorem blk_ne {W : World} {a b : Nat} {c1 c2 : Array Value} {t1 t2 : TypeId} {f1 f2 : Nat × Nat} (h1 : W.heap[a]? = some (.cells c1 t1 f1)) (h2 : W.heap[b]? = some (.cells c2 t2 f2)) (ht : t1 ≠ t2) : a ≠ b := by
  rintro rfl
  rw [h1] at h2
  injection h2 with h2
  injection h2 with _ h2
  exact ht h2
theorem RS.far {E : ErrV} {w0 : World} {s : ByteArray} {i o r : Nat} {W : World} (h : RS E w0 s i o r W) {p : Addr} (hp : r ≠ p.block) (hq : w0.heap.size ≤ p.block) (v : Value) : RS E w0 s i o r (W.setCell p v) :=
  ⟨blk_far h.rd hp v, h.le, h.low.setCell hq v, h.errs, h.facts, h.size, h.at_le⟩
theorem Read.far {r : Nat} {w W : World} (h : Read r w W) {p : Addr} (hp : w.heap.size ≤ p.block) (v : Value) : Read r w (W.setCell p v) := by
  have hb := (Below.refl w.heap.size W).setCell hp v
  exact ⟨hb.os.trans h.os, hb.tape.trans h.tape, hb.output.trans h.output, Nat.le_trans h.size hb.size, fun k hk hne => (hb.block k hk).trans (h.block k hk hne)⟩
theorem Read.low {r : Nat} {w W W' : World} (h : Read r w W) (hb : Below w.heap.size W W') : Read r w W' :=
  ⟨hb.os.trans h.os, hb.tape.trans h.tape, hb.output.trans h.output, Nat.le_trans h.size hb.size, fun k hk hne => (hb.block k hk).trans (h.block k hk hne)⟩
/-! ### what a reading of a value gives -/
def nulCells : List Value := [.int .i64 0, .bool false, .bool false, .string ⟨#[]⟩, .int .i64 0, .string ⟨#[]⟩, .slice none 0 0, .slice none 0 0]
def VGot (E : ErrV) (w0 : World) (s : ByteArray) (o r : Nat) (x : JV) (v : Value) (w' : World) : PR JV → Prop
  | .ok y j => x = y ∧ v = .nilIface ∧ RS E w0 s j o r w'
  | .no j k => IsFault v j (ev (E.at_ k)) w' ∧ ∃ j' o', RS E w0 s j' o' r w'
/-- What value, number .. give: w: the call's first world. -/
def ValGives (E : ErrV) (w0 : World) (s : ByteArray) (o r : Nat) (w : World) (res : PR JV) (e : Ending) (w' : World) : Prop :=
  ∃ x cs v, e = .returned (.tuple #[.agg cs.toArray, v]) ∧ kV.M w' w.heap.size (fun _ => True) x cs ∧ VGot E w0 s o r x v w' res ∧ Read r w w'
theorem M_nul (w : World) (base : Nat) : kV.M w base (fun _ => True) JV.nul nulCells := kV_mkM (x := JV.nul) (R_nilV _ _ _) (R_nilF _ _ _)

/-- What Parse hands out, as a number and an error's value. -/
def dpD : Except PE Dec → Dec
  | .ok d => d
  | .error _ => Dec.zero
def dpE (E : ErrV) : Except PE Dec → Value
  | .ok _ => .nilIface
  | .error k => ev (E.at_ k)
theorem dp_eq {E : ErrV} {D : Except PE Dec} {e : Ending} (h : DPGives E D e) : e = .returned (.tuple #[.agg #[.bool (dpD D).neg, .string (dpD D).digits, .int .i64 (dpD D).exp], dpE E D]) := by
  cases D with
  | ok d => exact h
  | error k => exact h

set_option maxRecDepth 100000 in
set_option maxHeartbeats 4000000 in
theorem number_any {E : ErrV} {w0 : World} {s : ByteArray} {i o r : Nat} {w : World} (h : RS E w0 s i o r w) :
    Calls Tryz.prog 87 #[.pointer (some ⟨r, 0, none⟩)] w fun e w' => ValGives E w0 s o r w (numberAt s i) e w' := by
  have hsz := h.size
  have hil := h.at_le
  have hrl := h.rd.lt
  have hB0 := (Below.refl _ w).alloc (Nat.le_refl _) (.cells #[.int .i64 0, .bool false, .bool false, .string ⟨#[]⟩, .int .i64 0, .string ⟨#[]⟩, .slice none 0 0, .slice none 0 0] 27)
  have hbox := heap_alloc_new w (.cells #[.int .i64 0, .bool false, .bool false, .string ⟨#[]⟩, .int .i64 0, .string ⟨#[]⟩, .slice none 0 0, .slice none 0 0] 27)
  have h1 := h.below hB0
  unfold numberAt
  obtain ⟨J, hJ⟩ : ∃ J, numTo s (s.size + 1) i = J := ⟨_, rfl⟩
  rw [hJ]
  replace hJ := Aside0.mk hJ
  obtain ⟨D, hD⟩ : ∃ D, decParse (s.extract i J) = D := ⟨_, rfl⟩
  rw [hD]
  replace hD := Aside0.mk hD
  replace hbox := Aside0.mk hbox
  replace hB0 := Aside0.mk hB0
  go_enter Tryz.func87, Tryz.ntmps87
  go_wp2_with fail
  go_loopw [4] (fun x4 wr => ∃ m f : Nat, x4 = .int .i64 m ∧ RS E w0 s i o r wr ∧ Below (w.heap.size + 1) (w.alloc (.cells #[.int .i64 0, .bool false, .bool false, .string ⟨#[]⟩, .int .i64 0, .string ⟨#[]⟩, .slice none 0 0, .slice none 0 0] 27)) wr ∧ i + m ≤ s.size ∧ s.size < i + m + f ∧ Aside0 (numTo s f (i + m) = J)) (fun x4 wr => s.size - (intOf x4).toNat)
  case atStart => exact ⟨0, s.size + 1, rfl, h1, Below.refl _ _, by omega, by omega, hJ⟩
  case round =>
    obtain ⟨m, f, rfl, hR, hB1, hm, hf, hJ2⟩ := hrel
    obtain ⟨f, rfl⟩ : ∃ g, f = g + 1 := ⟨f - 1, by omega⟩
    have hc := cellAll hR.rd
    have hstep : numTo s (f + 1) (i + m) = if i + m < s.size ∧ isNum (byteAt s (i + m)) = true then numTo s f (i + m + 1) else i + m := rfl
    rw [hstep] at hJ2
    clear hstep
    obtain ⟨b, hb⟩ : ∃ b, (decide (i + m < s.size) && isNum (byteAt s (i + m))) = b := ⟨_, rfl⟩
    go_wp2_with fail
    go_cut [33] from 7 to 33 (fun x33 wx => x33 = .bool b ∧ RS E w0 s i o r wx ∧ Below (w.heap.size + 1) (w.alloc (.cells #[.int .i64 0, .bool false, .bool false, .string ⟨#[]⟩, .int .i64 0, .string ⟨#[]⟩, .slice none 0 0, .slice none 0 0] 27)) wx)
    case first =>
      have hw1 : IntKind.i64.wrap ((i : Int) + (m : Int)) = (i : Int) + (m : Int) := by rw [IntKind.wrap_i64]; omega
      by_cases hl : i + m < s.size
      · have hl2 : (i : Int) + (m : Int) < (s.size : Int) := by omega
        have hl0 : (0 : Int) ≤ (i : Int) + (m : Int) := by omega
        have hgi := num_index (s[i + m]'hl)
        have hbt : (s[i + m]'hl).toNat = byteAt s (i + m) := by unfold byteAt; rw [dif_pos hl]
        have hIB := fun W => Tryz.strings_IndexByte ⟨#[43, 45, 46, 101, 69, 48, 49, 50, 51, 52, 53, 54, 55, 56, 57]⟩ ((s[i + m]'hl).toNat : Int) W
        have hub : (((s[i + m]'hl).toNat : Int).toNat).toUInt8 = s[i + m]'hl := by simp
        have hlist : (⟨#[43, 45, 46, 101, 69, 48, 49, 50, 51, 52, 53, 54, 55, 56, 57]⟩ : ByteArray).data.toList = numTab := rfl
        rw [hub, hlist] at hIB
        generalize Lib.indexByte numTab (s[i + m]'hl) = q at hgi hIB
        rw [hbt] at hgi
        have hIQ : ∀ W, Calls Tryz.prog 80 #[.string ⟨#[43, 45, 46, 101, 69, 48, 49, 50, 51, 52, 53, 54, 55, 56, 57]⟩, .int .u8 ((s[i + m]'hl).toNat : Int)] W fun e w' => e = .returned (.int .i64 q) ∧ ∃ n, w' = W.drewN n := fun W => (hIB W).mono (fun e w' h => ⟨h.1, 0, h.2⟩)
        clear hIB hub hlist hbt
        have hbq : decide (0 ≤ q) = b := by rw [hgi, ← hb, decide_eq_true hl, Bool.true_and]
        replace hgi := Aside0.mk hgi
        replace hb := Aside0.mk hb
        go_wp2_with fail
        go_quiet ((go_at_call 80; exact Calls.quiet_of (hIQ _)))
        have hbn := pw_below_drewN (Below.refl wr.heap.size wr) nq
        go_wp2_with fail
        go_meet
        exact ⟨by rw [← hbq], hR.below hbn, hB1.trans (hbn.mono (by have := hB1.size; simpa using this))⟩
      · have hl2 : decide ((i : Int) + (m : Int) < (s.size : Int)) = false := by simp; omega
        have hbf : b = false := by rw [← hb, decide_eq_false hl, Bool.false_and]
        subst hbf
        replace hb := Aside0.mk hb
        clear hl
        go_wp2_with fail
        go_quiet (fail)
        have hbn := pw_below_drewN (Below.refl wr.heap.size wr) nq
        go_wp2_with fail
        go_meet
        exact ⟨rfl, hR.below hbn, hB1.trans (hbn.mono (by have := hB1.size; simpa using this))⟩
    case rest =>
      obtain ⟨rfl, hR2, hB2⟩ := hcut
      cases b with
      | true =>
        obtain ⟨hl, hbn⟩ : i + m < s.size ∧ isNum (byteAt s (i + m)) = true := by simpa using hb
        have hJ3 : Aside0 (numTo s f (i + (m + 1)) = J) := ⟨by have := hJ2.out; rw [if_pos ⟨hl, hbn⟩] at this; exact this⟩
        clear hJ2 hb hbn
        go_wp2_with fail
        go_roundw
        case rel => exact ⟨m + 1, f, by congr 1, hR2, hB2, by omega, by omega, hJ3⟩
        case measure => simp [intOf]; omega
      | false =>
        have hJ3 : Aside0 (i + m = J) := ⟨by have := hJ2.out; rw [if_neg (fun h => by simp [h.1, h.2] at hb)] at this; exact this⟩
        clear hJ2 hb
        generalize hw2 : wc = w2 at *
        have hDD : decParse (s.extract i (i + m)) = D := by rw [hJ3.out]; exact hD.out
        have hbx := Aside0.mk ((hB2.block w.heap.size (by omega)).trans hbox.out)
        have hB20 := Aside0.mk (hB0.out.trans (hB2.mono (by omega)))
        have hR2d := hR2.below ((Below.refl w2.heap.size w2).drew)
        have hR2e := hR2.below (((Below.refl w2.heap.size w2).alloc (Nat.le_refl _) (.cells #[.bool false, .string ⟨#[]⟩, .int .i64 0] 23)).drew)
        have hxs : (s.extract i (i + m)).size ≤ 1048576 := by rw [ByteArray.size_extract]; omega
        have cD := fun W (hW : RS E w0 s i o r W) => (decParse_any E (s.extract i (i + m)) W hxs hW.fct hW.er).mono (fun e w' h => And.intro (dp_eq h.1) h.2)
        rw [hDD] at cD
        obtain ⟨d, hd⟩ : ∃ d, dpD D = d := ⟨_, rfl⟩
        obtain ⟨ve, hve⟩ : ∃ v, dpE E D = v := ⟨_, rfl⟩
        rw [hd, hve] at cD
        clear hDD hxs
        have htn : ((i : Int) + (m : Int)).toNat = i + m := by omega
        have hc2 := cellAll hR2.rd
        have hcr0 : w2.cell? ⟨r, 0, none⟩ = some (.string s) := by rw [hc2]; rfl
        have hcr1 : w2.cell? ⟨r, 1, none⟩ = some (.int .i64 i) := by rw [hc2]; rfl
        have hm2 : (i : Int) + (m : Int) ≤ (s.size : Int) := by omega
        have hm3 : (i : Int) ≤ (i : Int) + (m : Int) := by omega
        have hw1 : IntKind.i64.wrap ((i : Int) + (m : Int)) = (i : Int) + (m : Int) := by rw [IntKind.wrap_i64]; omega
        have hrne : r ≠ w2.heap.size := Nat.ne_of_lt hR2.rd.lt
        have hnw0 : w2.heap.size ≠ r := Nat.ne_of_gt hR2.rd.lt
        go_wp2_with fail
        go_cut [5, 6] from 36 to 54 (fun x5 x6 wx => ∃ k, x5 = .pointer (some ⟨k, 0, none⟩) ∧ x6 = ve ∧ w2.heap.size ≤ k ∧ wx.heap[k]? = some (.cells #[.bool d.neg, .string d.digits, .int .i64 d.exp] 23 (0, 0)) ∧ Below w2.heap.size w2 wx)
        case first =>
          go_region_held3 (fun w' => w'.cell? ⟨r, 0, none⟩ = some (.string s) ∧ w'.cell? ⟨r, 1, none⟩ = some (.int .i64 i))
            (first | go_keep | (refine ⟨?_, ?_⟩ <;> simp [*]))
            (first
              | (go_at_call 112; refine (cD w2.drew hR2d).mono ?_; rintro e w3 ⟨rfl, hb3⟩; have hR3 := hR2d.below hb3; have hc3 := cellAll hR3.rd; have hnw3 : w3.heap.size ≠ r := Nat.ne_of_gt hR3.rd.lt; have hb3' : Below w2.heap.size w2 w3 := ⟨hb3.os, hb3.tape, hb3.output, hb3.size, hb3.block⟩)
              | (go_at_call 112; refine (cD (w2.alloc (.cells #[.bool false, .string ⟨#[]⟩, .int .i64 0] 23)).drew hR2e).mono ?_; rintro e w3 ⟨rfl, hb3⟩; have hR3 := hR2e.below hb3; have hc3 := cellAll hR3.rd; have hb3' : Below w2.heap.size w2 w3 := (((Below.refl _ w2).alloc (Nat.le_refl _) (.cells #[.bool false, .string ⟨#[]⟩, .int .i64 0] 23)).drew).trans (hb3.mono (by simp)); have hnb := (hb3.block w2.heap.size (by simp)).trans (heap_alloc_new w2 (.cells #[.bool false, .string ⟨#[]⟩, .int .i64 0] 23)); have hcn := cellAll hnb; have hfn := frozenAll hnb))
          all_goals (go_wp2_with fail)
          all_goals go_meet
          all_goals (first
            | exact ⟨w3.heap.size, rfl, rfl, hb3'.size, heap_alloc_new w3 _, hb3'.alloc hb3'.size _⟩
            | exact ⟨w2.heap.size, rfl, rfl, Nat.le_refl _, blk_set (blk_set (blk_set hnb 0 _) 1 _) 2 _, below_set (below_set (below_set hb3' (Nat.le_refl _)) (Nat.le_refl _)) (Nat.le_refl _)⟩)
        case rest =>
          obtain ⟨kd, rfl, hx6, hkd, hkc, hB5⟩ := hcut
          have hR5 := hR2.below hB5
          have hbx5 := (hB5.block _ (blk_lt hbx.out)).trans hbx.out
          have hB50 := Aside0.mk (hB20.out.trans (hB5.mono hB20.out.size))
          clear hc2 hcr0 hcr1 cD hc
          cases D with
          | error pe =>
            have hv : ve = .iface 228 (.pointer (some (E.at_ pe))) := hve.symm
            rw [hv] at hx6
            subst hx6
            clear hve hv
            have hc5 := cellAll hR5.rd
            replace hbx5 := Aside0.mk hbx5
            go_wp2_with (go_at_call 56; refine (fail_any _ _ _ _).mono ?_; rintro e w9 ⟨v, rfl, ⟨kk, rfl, hk⟩, hb9⟩; replace hk := Aside0.mk hk; have hbx9 := (hb9.block _ (blk_lt hbx5.out)).trans hbx5.out; have hc9 := cellAll hbx9; have hf9 := frozenAll hbx9)
            have hR9 := hR5.below hb9
            have hB90 := hB50.out.trans (hb9.mono hB50.out.size)
            have hkl := blk_lt hk.out
            refine bodyPost_ret (v := .tuple #[.agg #[.int .i64 0, .bool false, .bool false, .string ⟨#[]⟩, .int .i64 0, .string ⟨#[]⟩, .slice none 0 0, .slice none 0 0], .iface 94 (.pointer (some ⟨kk, 0, none⟩))]) (by simp [results, Tryz.results87, go_sem, hc9]) rfl ⟨JV.nul, nulCells, _, rfl, M_nul _ _, ⟨?_, i, o, ?_⟩, ?_⟩
            · exact ⟨kk, rfl, by
                have hne := blk_ne hk.out hbx9 (by decide)
                iterate 8 refine blk_far ?_ hne _
                exact hk.out⟩
            · iterate 8 refine RS.far ?_ (by show r ≠ w.heap.size; omega) (by show w0.heap.size ≤ w.heap.size; have := h.le; omega) _
              exact hR9
            · iterate 8 refine Read.far ?_ (by show w.heap.size ≤ w.heap.size; omega) _
              exact Read.of_below hB90
          | ok dd =>
            have hv : ve = .nilIface := hve.symm
            rw [hv] at hx6
            subst hx6
            have hd' : d = dd := hd.symm
            subst hd'
            clear hve hv hd
            have hc5 := cellAll hR5.rd
            have hf5 := frozenAll hR5.rd
            have e1 : (((i + m : Nat) : Int)) = (i : Int) + (m : Int) := by omega
            have hR6 : RS E w0 s (i + m) o r (wc.setCell ⟨r, 1, none⟩ (.int .i64 ((i : Int) + (m : Int)))) := by
              rw [← e1]
              exact hR5.read (hR5.rd.at_ (i + m)) ((Read.refl r wc).set_ 1 _) hm
            have hW6 : Read r w (wc.setCell ⟨r, 1, none⟩ (.int .i64 ((i : Int) + (m : Int)))) := (Read.of_below hB50.out).set_ 1 _
            have hkc6 := blk_far (p := ⟨r, 1, none⟩) hkc (blk_ne hkc hR5.rd (by decide)) (.int .i64 ((i : Int) + (m : Int)))
            have hbx6 := blk_far (p := ⟨r, 1, none⟩) hbx5 (by show w.heap.size ≠ r; omega) (.int .i64 ((i : Int) + (m : Int)))
            have hc6 := cellAll hkc6
            have hc7 := cellAll hbx6
            have hf7 := frozenAll hbx6
            replace hR6 := Aside0.mk hR6
            replace hW6 := Aside0.mk hW6
            replace hkc6 := Aside0.mk hkc6
            replace hbx6 := Aside0.mk hbx6
            replace hkc := Aside0.mk hkc
            replace hbx5 := Aside0.mk hbx5
            go_wp2_with fail
            refine bodyPost_ret (v := .tuple #[.agg #[.int .i64 2, .bool false, .bool d.neg, .string d.digits, .int .i64 d.exp, .string ⟨#[]⟩, .slice none 0 0, .slice none 0 0], .nilIface]) (by simp [results, Tryz.results87, go_sem, hc7]) rfl ⟨.mk 2 false d.neg d.digits d.exp ⟨#[]⟩ [] [], [.int .i64 2, .bool false, .bool d.neg, .string d.digits, .int .i64 d.exp, .string ⟨#[]⟩, .slice none 0 0, .slice none 0 0], _, rfl, kV_mkM (x := .mk 2 false d.neg d.digits d.exp ⟨#[]⟩ [] []) (R_nilV _ _ _) (R_nilF _ _ _), ⟨rfl, rfl, ?_⟩, ?_⟩
            · rw [← hJ3.out]
              iterate 8 refine RS.far ?_ (by show r ≠ w.heap.size; omega) (by show w0.heap.size ≤ w.heap.size; have := h.le; omega) _
              exact hR6.out
            · iterate 8 refine Read.far ?_ (by show w.heap.size ≤ w.heap.size; omega) _
              exact hW6.out
end Go.Proofs.YtkdeleafgailhaaGreatDoor
end
section
set_option linter.unusedVariables false
set_option linter.unusedSimpArgs false
namespace Go.Proofs.YtkdeleafgailhaaGreatDoor
open Go Go.RowKit Go.Proofs.YtkdeleafgailhaaGreatDoorW.PrintWords

/-! ### plain -/
def sevF {σ : Type} (s : ByteArray) (c : Nat) (each : Nat → σ → PR σ) : Nat → Nat → σ → PR σ
  | 0, i, _ => .no i .due
  | n + 1, i, x => match each i x with
    | .no j k => .no j k
    | .ok y j => if byteAt s (gapTo s j) = 44 then sevF s c each n (gapTo s (gapTo s j + 1)) y else if byteAt s (gapTo s j) = c then .ok y (gapTo s j + 1) else .no (gapTo s j) .due
def sevAt {σ : Type} (s : ByteArray) (c : Nat) (each : Nat → σ → PR σ) (i : Nat) (x : σ) : PR σ :=
  if byteAt s (gapTo s (i + 1)) = c then .ok x (gapTo s (i + 1) + 1) else sevF s c each (s.size + 1) (gapTo s (i + 1)) x

/-! ### in memory -/
/-- What a closure gives that reads one thing. -/
def EachGives {σ : Type} (E : ErrV) (w0 : World) (s : ByteArray) (r : Nat) (St : Nat → σ → World → Prop) (Box : World → Prop) (i : Nat) (e : Ending) (w' : World) : PR σ → Prop
  | .ok y j => e = .returned .nilIface ∧ St j y w' ∧ i < j
  | .no j k => ∃ v, e = .returned v ∧ IsFault v j (ev (E.at_ k)) w' ∧ Box w' ∧ ∃ j' o', RS E w0 s j' o' r w'
def SevGives {σ : Type} (E : ErrV) (w0 : World) (s : ByteArray) (o r : Nat) (St : Nat → σ → World → Prop) (Box : World → Prop) (e : Ending) (w' : World) : PR σ → Prop
  | .ok y j => e = .returned .nilIface ∧ RS E w0 s j o r w' ∧ ∃ W k, St k y W ∧ Read r W w'
  | .no j k => ∃ v, e = .returned v ∧ IsFault v j (ev (E.at_ k)) w' ∧ Box w' ∧ ∃ j' o', RS E w0 s j' o' r w'
/-- What the reader's moves leave. -/
structure SevOK {σ : Type} (E : ErrV) (w0 : World) (s : ByteArray) (o r : Nat) (St : Nat → σ → World → Prop) (Box : World → Prop) : Prop where
  rs : ∀ i x W, St i x W → RS E w0 s i (o + 1) r W
  mv : ∀ i i' x W W', i ≤ i' → St i x W → RS E w0 s i' (o + 1) r W' → Read r W W' → St i' x W'
  bx : ∀ i x W W', St i x W → Read r W W' → Box W'
structure SRel {σ : Type} (s : ByteArray) (c : Nat) (each : Nat → σ → PR σ) (St : Nat → σ → World → Prop) (res : PR σ) (m : Bool) (j : Nat) (y : σ) (wr : World) : Prop where
  st : St j y wr
  on : m = true → ∃ n, s.size < j + n ∧ sevF s c each n j y = res
  off : m = false → res = if byteAt s j = c then .ok y (j + 1) else .no j .due

set_option maxRecDepth 100000 in
set_option maxHeartbeats 4000000 in
theorem several_1 {σ : Type} {E : ErrV} {w0 : World} {s : ByteArray} {i o r : Nat} {w : World} (h : RS E w0 s i o r w) (hi : i < s.size) (ho : o ≤ 64) (c : Nat) (hc0 : 0 < c) (hc44 : c ≠ 44) (St : Nat → σ → World → Prop) (Box : World → Prop) (each : Nat → σ → PR σ) (x0 : σ) (a1 a2 : Value) (hOK : SevOK E w0 s o r St Box)
    (hev : o ≠ 64 → ∀ j y W, St j y W → Calls Tryz.prog 83 #[a1, a2] W fun e w' => EachGives E w0 s r St Box j e w' (each j y))
    (hst : ∀ i' W', RS E w0 s i' (o + 1) r W' → Read r w W' → St i' x0 W') (hb0 : ∀ W', Read r w W' → Box W') :
    Calls Tryz.prog 82 #[.pointer (some ⟨r, 0, none⟩), .int .u8 c, .func (.func 83) #[] #[a1, a2]] w fun e w' => SevGives E w0 s o r St Box e w' (if o = 64 then .no i .deep else sevAt s c each i x0) := by
  have hsz := h.size
  have hil := h.at_le
  have hc := cellAll h.rd
  have hf := frozenAll h.rd
  have hOK0 := Aside0.mk hOK
  have hev0 := Aside0.mk hev
  have hst0 := Aside0.mk hst
  have hb00 := Aside0.mk hb0
  clear hOK hev hst hb0
  by_cases h64 : o = 64
  · subst h64
    have hd := h.er.deep_cell
    rw [if_pos rfl]
    go_enter Tryz.func82, Tryz.ntmps82
    go_wp2_with fail
    go_region_held3 (fun w' => w'.cell? ⟨r, 1, none⟩ = some (.int .i64 i) ∧ w'.cell? ⟨7, 0, none⟩ = some (.iface 228 (.pointer (some E.deep))))
      (first | (simp; done) | (simp [*]; done))
      (first | (go_at_call 56; refine (fail_any _ _ _ _).mono ?_; rintro e w9 ⟨v, rfl, ⟨kk, rfl, hk⟩, hb9⟩; replace hk := Aside0.mk hk; have hb10 : Below w.heap.size w w9 := ⟨hb9.os, hb9.tape, hb9.output, hb9.size, hb9.block⟩; have hc9 := cellAll (h.below hb10).rd; have hd9 := (h.below hb10).er.deep_cell))
    all_goals (go_wp2_with fail)
    all_goals exact bodyPost_ret (v := .iface 94 (.pointer (some ⟨kk, 0, none⟩))) (by simp [results, Tryz.results82, Act.put, go_sem]) rfl ⟨_, rfl, ⟨kk, rfl, hk.out⟩, hb00.out _ (Read.of_below hb10), i, 64, h.below hb10⟩
  rw [if_neg h64]
  replace hev0 := Aside0.mk (hev0.out h64)
  have b1 : ((o : Int) == 64) = false := by simp; omega
  have e1 : (((i + 1 : Nat) : Int)) = (i : Int) + 1 := by omega
  have e2 : (((o + 1 : Nat) : Int)) = (o : Int) + 1 := by omega
  have hA : RS E w0 s i (o + 1) r (w.setCell ⟨r, 2, none⟩ (.int .i64 ((o : Int) + 1))) := by
    rw [← e2]
    exact h.read (h.rd.open_ (o + 1)) ((Read.refl r w).set_ 2 _) h.at_le
  have hB : RS E w0 s (i + 1) (o + 1) r ((w.setCell ⟨r, 2, none⟩ (.int .i64 ((o : Int) + 1))).setCell ⟨r, 1, none⟩ (.int .i64 ((i : Int) + 1))) := by
    rw [← e1]
    exact hA.read (hA.rd.at_ (i + 1)) ((Read.refl r _).set_ 1 _) (by omega)
  have hBr : Read r w ((w.setCell ⟨r, 2, none⟩ (.int .i64 ((o : Int) + 1))).setCell ⟨r, 1, none⟩ (.int .i64 ((i : Int) + 1))) := ((Read.refl r w).set_ 2 _).set_ 1 _
  have hcA := cellAll hA.rd
  have hfA := frozenAll hA.rd
  have hB0 := Aside0.mk hB
  have hBr0 := Aside0.mk hBr
  clear hB hBr hA
  unfold sevAt
  obtain ⟨g0, hg0⟩ : ∃ g, gapTo s (i + 1) = g := ⟨_, rfl⟩
  have cG0 := fun W (hW : RS E w0 s (i + 1) (o + 1) r W) => gap_r hW
  rw [hg0] at cG0 ⊢
  obtain ⟨res, hres⟩ : ∃ res, (if byteAt s g0 = c then PR.ok x0 (g0 + 1) else sevF s c each (s.size + 1) g0 x0) = res := ⟨_, rfl⟩
  rw [hres]
  replace hres := Aside0.mk hres
  go_enter Tryz.func82, Tryz.ntmps82
  go_wp2_with (first
    | (go_at_call 81; refine (next_s hR1).mono ?_; rintro e w2 ⟨rfl, hR2, hb2⟩; have hS2 := Aside0.mk (hst0.out _ w2 hR2 (hW1.out.trans (Read.of_below hb2))))
    | (go_at_call 57; refine (cG0 _ hB0.out).mono ?_; rintro e w1 ⟨rfl, hR1, hW1⟩; replace hW1 := Aside0.mk (hBr0.out.trans hW1)))
  go_loopw [7] (fun x7 wr => ∃ (m : Bool) (j : Nat) (y : σ), x7 = .bool m ∧ SRel s c each St res m j y wr) (fun x7 wr => s.size - rdAt r wr)
  case atStart =>
    by_cases hb : byteAt s g0 = c
    · have b2 : ((byteAt s g0 : Int) != (c : Int)) = false := by simp; omega
      refine ⟨false, g0, x0, by rw [b2], hS2.out, (fun h => by cases h), fun _ => ?_⟩
      rw [← hres.out, if_pos hb, if_pos hb]
    · have b2 : ((byteAt s g0 : Int) != (c : Int)) = true := by simp; omega
      refine ⟨true, g0, x0, by rw [b2], hS2.out, fun _ => ⟨s.size + 1, by omega, ?_⟩, (fun h => by cases h)⟩
      rw [← hres.out, if_neg hb]
  case round =>
    obtain ⟨m, j, y, rfl, hr⟩ := hrel
    have hRj := hOK0.out.rs _ _ _ hr.st
    have hjs := hRj.at_le
    cases m with
    | true =>
      obtain ⟨n, hn, hx⟩ := hr.on rfl
      obtain ⟨n, rfl⟩ : ∃ q, n = q + 1 := ⟨n - 1, by omega⟩
      have hstep : sevF s c each (n + 1) j y = (match each j y with
        | .no j k => .no j k
        | .ok y j => if byteAt s (gapTo s j) = 44 then sevF s c each n (gapTo s (gapTo s j + 1)) y else if byteAt s (gapTo s j) = c then .ok y (gapTo s j + 1) else .no (gapTo s j) .due) := rfl
      rw [hstep] at hx
      clear hstep
      have cE := hev0.out j y wr hr.st
      have hat0 := hRj.rd.at_eq
      replace hr := Aside0.mk hr
      replace hRj := Aside0.mk hRj
      generalize each j y = gv at hx cE
      cases gv with
      | no jf kf =>
        simp only at hx
        subst hx
        go_wp2_with (go_at_call 83; refine cE.mono ?_; rintro e w2 ⟨v, rfl, ⟨kk, rfl, hk⟩, hbx, hrs⟩; replace hk := Aside0.mk hk; replace hbx := Aside0.mk hbx; replace hrs := Aside0.mk hrs)
        go_ret
        exact ⟨_, rfl, ⟨kk, rfl, hk.out⟩, hbx.out, hrs.out⟩
      | ok y2 j2 =>
        simp only at hx
        obtain ⟨k2, hk2⟩ : ∃ k, gapTo s j2 = k := ⟨_, rfl⟩
        rw [hk2] at hx
        have cG := fun W (hW : RS E w0 s j2 (o + 1) r W) => gap_r hW
        rw [hk2] at cG
        have hgle := gapTo_le s j2
        rw [hk2] at hgle
        have hbl := byteAt_lt s k2
        replace hk2 := Aside0.mk hk2
        by_cases h44 : byteAt s k2 = 44
        · rw [if_pos h44] at hx
          have hks : k2 < s.size := byteAt_in (by omega)
          have b3 : ((byteAt s k2 : Int) == 44) = true := by simp; omega
          obtain ⟨k3, hk3⟩ : ∃ k, gapTo s (k2 + 1) = k := ⟨_, rfl⟩
          rw [hk3] at hx
          have cG3 := fun W (hW : RS E w0 s (k2 + 1) (o + 1) r W) => gap_r hW
          rw [hk3] at cG3
          have hgle3 := gapTo_le s (k2 + 1)
          rw [hk3] at hgle3
          replace hk3 := Aside0.mk hk3
          replace hx := Aside0.mk hx
          have e3 : (((k2 + 1 : Nat) : Int)) = (k2 : Int) + 1 := by omega
          clear h44
          go_wp2_with (first
            | (go_at_call 57; refine (cG3 _ hR5.out).mono ?_; rintro e w6 ⟨rfl, hR6, hW6⟩; have hS6 := Aside0.mk (hOK0.out.mv _ k3 _ _ _ (by omega) hS4.out hR6 (hW5.out.trans hW6)))
            | (go_at_call 81; refine (next_s hR3).mono ?_; rintro e w4 ⟨rfl, hR4, hb4⟩; have hS4 := Aside0.mk (hOK0.out.mv _ k2 _ _ _ hgle hS2.out hR4 (hW3.out.trans (Read.of_below hb4))); have hc4 := cellAll hR4.rd; have hf4 := frozenAll hR4.rd; have hR5 := Aside0.mk (hR4.read (hR4.rd.at_ (k2 + 1)) ((Read.refl r w4).set_ 1 _) (by omega)); have hW5 := Aside0.mk ((Read.refl r w4).set_ 1 (.int .i64 ((k2 + 1 : Nat) : Int))); rw [e3] at hR5 hW5)
            | (go_at_call 57; refine (cG _ hR2).mono ?_; rintro e w3 ⟨rfl, hR3, hW3⟩; replace hW3 := Aside0.mk hW3)
            | (go_at_call 83; refine cE.mono ?_; rintro e w2 ⟨rfl, hS2b, hjj⟩; have hR2 := hOK0.out.rs _ _ _ hS2b; have hS2 := Aside0.mk hS2b; clear hS2b))
          go_roundw
          case rel => exact ⟨true, k3, y2, rfl, hS6.out, fun _ => ⟨n, by omega, hx.out⟩, (fun h => by cases h)⟩
          case measure =>
            rw [hR6.rd.at_eq, hat0]
            omega
        · rw [if_neg h44] at hx
          have b3 : ((byteAt s k2 : Int) == 44) = false := by simp; omega
          replace hx := Aside0.mk hx
          clear h44
          go_wp2_with (first
            | (go_at_call 81; refine (next_s hR3).mono ?_; rintro e w4 ⟨rfl, hR4, hb4⟩; have hS4 := Aside0.mk (hOK0.out.mv _ k2 _ _ _ hgle hS2.out hR4 (hW3.out.trans (Read.of_below hb4))); have hc4 := cellAll hR4.rd; have hf4 := frozenAll hR4.rd)
            | (go_at_call 57; refine (cG _ hR2).mono ?_; rintro e w3 ⟨rfl, hR3, hW3⟩; replace hW3 := Aside0.mk hW3)
            | (go_at_call 83; refine cE.mono ?_; rintro e w2 ⟨rfl, hS2b, hjj⟩; have hR2 := hOK0.out.rs _ _ _ hS2b; have hS2 := Aside0.mk hS2b; clear hS2b))
          go_roundw
          case rel => exact ⟨false, k2, y2, rfl, hS4.out, (fun h => by cases h), fun _ => hx.out.symm⟩
          case measure =>
            rw [hR4.rd.at_eq, hat0]
            have := hR4.at_le
            omega
    | false =>
      have hx := hr.off rfl
      have hcj := cellAll hRj.rd
      have hfj := frozenAll hRj.rd
      have hoo : (((o + 1 : Nat) : Int)) - 1 = (o : Int) := by omega
      have hA : RS E w0 s j o r (wr.setCell ⟨r, 2, none⟩ (.int .i64 (o : Int))) := hRj.read (hRj.rd.open_ o) ((Read.refl r wr).set_ 2 _) hjs
      have hAr : Read r wr (wr.setCell ⟨r, 2, none⟩ (.int .i64 (o : Int))) := (Read.refl r wr).set_ 2 _
      have cN := next_s hA
      replace hA := Aside0.mk hA
      replace hAr := Aside0.mk hAr
      have hbl := byteAt_lt s j
      by_cases hcb : byteAt s j = c
      · rw [if_pos hcb] at hx
        have b3 : ((byteAt s j : Int) != (c : Int)) = false := by simp; omega
        have hjl : j < s.size := byteAt_in (by omega)
        clear hcb
        replace hx := Aside0.mk hx
        have e3 : (((j + 1 : Nat) : Int)) = (j : Int) + 1 := by omega
        go_wp2_with (go_at_call 81; refine cN.mono ?_; rintro e w4 ⟨rfl, hR4, hb4⟩; have hc4 := cellAll hR4.rd; have hf4 := frozenAll hR4.rd; have hR5 := Aside0.mk (hR4.read (hR4.rd.at_ (j + 1)) ((Read.refl r w4).set_ 1 _) (by omega)); have hW5 := Aside0.mk ((Read.of_below (r := r) hb4).set_ 1 (.int .i64 ((j + 1 : Nat) : Int))); rw [e3] at hR5 hW5)
        go_ret
        rw [hx.out]
        exact ⟨rfl, hR5.out, wr, j, hr.st, hAr.out.trans hW5.out⟩
      · rw [if_neg hcb] at hx
        have b3 : ((byteAt s j : Int) != (c : Int)) = true := by simp; omega
        clear hcb
        replace hx := Aside0.mk hx
        go_wp2_with (go_at_call 81; refine cN.mono ?_; rintro e w4 ⟨rfl, hR4, hb4⟩; have hc4 := cellAll hR4.rd; have hd4 := hR4.er.due_cell)
        go_region_held3 (fun w' => w'.cell? ⟨r, 1, none⟩ = some (.int .i64 j) ∧ w'.cell? ⟨1, 0, none⟩ = some (.iface 228 (.pointer (some E.due))))
          (first | (simp; done) | (simp [*]; done))
          (first | (go_at_call 56; refine (fail_any _ _ _ _).mono ?_; rintro e w9 ⟨v, rfl, ⟨kk, rfl, hk⟩, hb9⟩; replace hk := Aside0.mk hk; have hb10 : Below w4.heap.size w4 w9 := ⟨hb9.os, hb9.tape, hb9.output, hb9.size, hb9.block⟩; have hc9 := cellAll (hR4.below hb10).rd; have hd9 := (hR4.below hb10).er.due_cell))
        all_goals (go_wp2_with fail)
        rw [hx.out]
        exact bodyPost_ret (v := .iface 94 (.pointer (some ⟨kk, 0, none⟩))) (by simp [results, Tryz.results82, Act.put, go_sem]) rfl ⟨_, rfl, ⟨kk, rfl, hk.out⟩, hOK0.out.bx _ _ _ _ hr.st (hAr.out.trans ((Read.of_below hb4).trans (Read.of_below hb10))), j, o, hR4.below hb10⟩

set_option maxRecDepth 100000 in
set_option maxHeartbeats 4000000 in
theorem several_2 {σ : Type} {E : ErrV} {w0 : World} {s : ByteArray} {i o r : Nat} {w : World} (h : RS E w0 s i o r w) (hi : i < s.size) (ho : o ≤ 64) (c : Nat) (hc0 : 0 < c) (hc44 : c ≠ 44) (St : Nat → σ → World → Prop) (Box : World → Prop) (each : Nat → σ → PR σ) (x0 : σ) (a1 a2 : Value) (hOK : SevOK E w0 s o r St Box)
    (hev : o ≠ 64 → ∀ j y W, St j y W → Calls Tryz.prog 84 #[a1, a2] W fun e w' => EachGives E w0 s r St Box j e w' (each j y))
    (hst : ∀ i' W', RS E w0 s i' (o + 1) r W' → Read r w W' → St i' x0 W') (hb0 : ∀ W', Read r w W' → Box W') :
    Calls Tryz.prog 82 #[.pointer (some ⟨r, 0, none⟩), .int .u8 c, .func (.func 84) #[] #[a1, a2]] w fun e w' => SevGives E w0 s o r St Box e w' (if o = 64 then .no i .deep else sevAt s c each i x0) := by
  have hsz := h.size
  have hil := h.at_le
  have hc := cellAll h.rd
  have hf := frozenAll h.rd
  have hOK0 := Aside0.mk hOK
  have hev0 := Aside0.mk hev
  have hst0 := Aside0.mk hst
  have hb00 := Aside0.mk hb0
  clear hOK hev hst hb0
  by_cases h64 : o = 64
  · subst h64
    have hd := h.er.deep_cell
    rw [if_pos rfl]
    go_enter Tryz.func82, Tryz.ntmps82
    go_wp2_with fail
    go_region_held3 (fun w' => w'.cell? ⟨r, 1, none⟩ = some (.int .i64 i) ∧ w'.cell? ⟨7, 0, none⟩ = some (.iface 228 (.pointer (some E.deep))))
      (first | (simp; done) | (simp [*]; done))
      (first | (go_at_call 56; refine (fail_any _ _ _ _).mono ?_; rintro e w9 ⟨v, rfl, ⟨kk, rfl, hk⟩, hb9⟩; replace hk := Aside0.mk hk; have hb10 : Below w.heap.size w w9 := ⟨hb9.os, hb9.tape, hb9.output, hb9.size, hb9.block⟩; have hc9 := cellAll (h.below hb10).rd; have hd9 := (h.below hb10).er.deep_cell))
    all_goals (go_wp2_with fail)
    all_goals exact bodyPost_ret (v := .iface 94 (.pointer (some ⟨kk, 0, none⟩))) (by simp [results, Tryz.results82, Act.put, go_sem]) rfl ⟨_, rfl, ⟨kk, rfl, hk.out⟩, hb00.out _ (Read.of_below hb10), i, 64, h.below hb10⟩
  rw [if_neg h64]
  replace hev0 := Aside0.mk (hev0.out h64)
  have b1 : ((o : Int) == 64) = false := by simp; omega
  have e1 : (((i + 1 : Nat) : Int)) = (i : Int) + 1 := by omega
  have e2 : (((o + 1 : Nat) : Int)) = (o : Int) + 1 := by omega
  have hA : RS E w0 s i (o + 1) r (w.setCell ⟨r, 2, none⟩ (.int .i64 ((o : Int) + 1))) := by
    rw [← e2]
    exact h.read (h.rd.open_ (o + 1)) ((Read.refl r w).set_ 2 _) h.at_le
  have hB : RS E w0 s (i + 1) (o + 1) r ((w.setCell ⟨r, 2, none⟩ (.int .i64 ((o : Int) + 1))).setCell ⟨r, 1, none⟩ (.int .i64 ((i : Int) + 1))) := by
    rw [← e1]
    exact hA.read (hA.rd.at_ (i + 1)) ((Read.refl r _).set_ 1 _) (by omega)
  have hBr : Read r w ((w.setCell ⟨r, 2, none⟩ (.int .i64 ((o : Int) + 1))).setCell ⟨r, 1, none⟩ (.int .i64 ((i : Int) + 1))) := ((Read.refl r w).set_ 2 _).set_ 1 _
  have hcA := cellAll hA.rd
  have hfA := frozenAll hA.rd
  have hB0 := Aside0.mk hB
  have hBr0 := Aside0.mk hBr
  clear hB hBr hA
  unfold sevAt
  obtain ⟨g0, hg0⟩ : ∃ g, gapTo s (i + 1) = g := ⟨_, rfl⟩
  have cG0 := fun W (hW : RS E w0 s (i + 1) (o + 1) r W) => gap_r hW
  rw [hg0] at cG0 ⊢
  obtain ⟨res, hres⟩ : ∃ res, (if byteAt s g0 = c then PR.ok x0 (g0 + 1) else sevF s c each (s.size + 1) g0 x0) = res := ⟨_, rfl⟩
  rw [hres]
  replace hres := Aside0.mk hres
  go_enter Tryz.func82, Tryz.ntmps82
  go_wp2_with (first
    | (go_at_call 81; refine (next_s hR1).mono ?_; rintro e w2 ⟨rfl, hR2, hb2⟩; have hS2 := Aside0.mk (hst0.out _ w2 hR2 (hW1.out.trans (Read.of_below hb2))))
    | (go_at_call 57; refine (cG0 _ hB0.out).mono ?_; rintro e w1 ⟨rfl, hR1, hW1⟩; replace hW1 := Aside0.mk (hBr0.out.trans hW1)))
  go_loopw [7] (fun x7 wr => ∃ (m : Bool) (j : Nat) (y : σ), x7 = .bool m ∧ SRel s c each St res m j y wr) (fun x7 wr => s.size - rdAt r wr)
  case atStart =>
    by_cases hb : byteAt s g0 = c
    · have b2 : ((byteAt s g0 : Int) != (c : Int)) = false := by simp; omega
      refine ⟨false, g0, x0, by rw [b2], hS2.out, (fun h => by cases h), fun _ => ?_⟩
      rw [← hres.out, if_pos hb, if_pos hb]
    · have b2 : ((byteAt s g0 : Int) != (c : Int)) = true := by simp; omega
      refine ⟨true, g0, x0, by rw [b2], hS2.out, fun _ => ⟨s.size + 1, by omega, ?_⟩, (fun h => by cases h)⟩
      rw [← hres.out, if_neg hb]
  case round =>
    obtain ⟨m, j, y, rfl, hr⟩ := hrel
    have hRj := hOK0.out.rs _ _ _ hr.st
    have hjs := hRj.at_le
    cases m with
    | true =>
      obtain ⟨n, hn, hx⟩ := hr.on rfl
      obtain ⟨n, rfl⟩ : ∃ q, n = q + 1 := ⟨n - 1, by omega⟩
      have hstep : sevF s c each (n + 1) j y = (match each j y with
        | .no j k => .no j k
        | .ok y j => if byteAt s (gapTo s j) = 44 then sevF s c each n (gapTo s (gapTo s j + 1)) y else if byteAt s (gapTo s j) = c then .ok y (gapTo s j + 1) else .no (gapTo s j) .due) := rfl
      rw [hstep] at hx
      clear hstep
      have cE := hev0.out j y wr hr.st
      have hat0 := hRj.rd.at_eq
      replace hr := Aside0.mk hr
      replace hRj := Aside0.mk hRj
      generalize each j y = gv at hx cE
      cases gv with
      | no jf kf =>
        simp only at hx
        subst hx
        go_wp2_with (go_at_call 84; refine cE.mono ?_; rintro e w2 ⟨v, rfl, ⟨kk, rfl, hk⟩, hbx, hrs⟩; replace hk := Aside0.mk hk; replace hbx := Aside0.mk hbx; replace hrs := Aside0.mk hrs)
        go_ret
        exact ⟨_, rfl, ⟨kk, rfl, hk.out⟩, hbx.out, hrs.out⟩
      | ok y2 j2 =>
        simp only at hx
        obtain ⟨k2, hk2⟩ : ∃ k, gapTo s j2 = k := ⟨_, rfl⟩
        rw [hk2] at hx
        have cG := fun W (hW : RS E w0 s j2 (o + 1) r W) => gap_r hW
        rw [hk2] at cG
        have hgle := gapTo_le s j2
        rw [hk2] at hgle
        have hbl := byteAt_lt s k2
        replace hk2 := Aside0.mk hk2
        by_cases h44 : byteAt s k2 = 44
        · rw [if_pos h44] at hx
          have hks : k2 < s.size := byteAt_in (by omega)
          have b3 : ((byteAt s k2 : Int) == 44) = true := by simp; omega
          obtain ⟨k3, hk3⟩ : ∃ k, gapTo s (k2 + 1) = k := ⟨_, rfl⟩
          rw [hk3] at hx
          have cG3 := fun W (hW : RS E w0 s (k2 + 1) (o + 1) r W) => gap_r hW
          rw [hk3] at cG3
          have hgle3 := gapTo_le s (k2 + 1)
          rw [hk3] at hgle3
          replace hk3 := Aside0.mk hk3
          replace hx := Aside0.mk hx
          have e3 : (((k2 + 1 : Nat) : Int)) = (k2 : Int) + 1 := by omega
          clear h44
          go_wp2_with (first
            | (go_at_call 57; refine (cG3 _ hR5.out).mono ?_; rintro e w6 ⟨rfl, hR6, hW6⟩; have hS6 := Aside0.mk (hOK0.out.mv _ k3 _ _ _ (by omega) hS4.out hR6 (hW5.out.trans hW6)))
            | (go_at_call 81; refine (next_s hR3).mono ?_; rintro e w4 ⟨rfl, hR4, hb4⟩; have hS4 := Aside0.mk (hOK0.out.mv _ k2 _ _ _ hgle hS2.out hR4 (hW3.out.trans (Read.of_below hb4))); have hc4 := cellAll hR4.rd; have hf4 := frozenAll hR4.rd; have hR5 := Aside0.mk (hR4.read (hR4.rd.at_ (k2 + 1)) ((Read.refl r w4).set_ 1 _) (by omega)); have hW5 := Aside0.mk ((Read.refl r w4).set_ 1 (.int .i64 ((k2 + 1 : Nat) : Int))); rw [e3] at hR5 hW5)
            | (go_at_call 57; refine (cG _ hR2).mono ?_; rintro e w3 ⟨rfl, hR3, hW3⟩; replace hW3 := Aside0.mk hW3)
            | (go_at_call 84; refine cE.mono ?_; rintro e w2 ⟨rfl, hS2b, hjj⟩; have hR2 := hOK0.out.rs _ _ _ hS2b; have hS2 := Aside0.mk hS2b; clear hS2b))
          go_roundw
          case rel => exact ⟨true, k3, y2, rfl, hS6.out, fun _ => ⟨n, by omega, hx.out⟩, (fun h => by cases h)⟩
          case measure =>
            rw [hR6.rd.at_eq, hat0]
            omega
        · rw [if_neg h44] at hx
          have b3 : ((byteAt s k2 : Int) == 44) = false := by simp; omega
          replace hx := Aside0.mk hx
          clear h44
          go_wp2_with (first
            | (go_at_call 81; refine (next_s hR3).mono ?_; rintro e w4 ⟨rfl, hR4, hb4⟩; have hS4 := Aside0.mk (hOK0.out.mv _ k2 _ _ _ hgle hS2.out hR4 (hW3.out.trans (Read.of_below hb4))); have hc4 := cellAll hR4.rd; have hf4 := frozenAll hR4.rd)
            | (go_at_call 57; refine (cG _ hR2).mono ?_; rintro e w3 ⟨rfl, hR3, hW3⟩; replace hW3 := Aside0.mk hW3)
            | (go_at_call 84; refine cE.mono ?_; rintro e w2 ⟨rfl, hS2b, hjj⟩; have hR2 := hOK0.out.rs _ _ _ hS2b; have hS2 := Aside0.mk hS2b; clear hS2b))
          go_roundw
          case rel => exact ⟨false, k2, y2, rfl, hS4.out, (fun h => by cases h), fun _ => hx.out.symm⟩
          case measure =>
            rw [hR4.rd.at_eq, hat0]
            have := hR4.at_le
            omega
    | false =>
      have hx := hr.off rfl
      have hcj := cellAll hRj.rd
      have hfj := frozenAll hRj.rd
      have hoo : (((o + 1 : Nat) : Int)) - 1 = (o : Int) := by omega
      have hA : RS E w0 s j o r (wr.setCell ⟨r, 2, none⟩ (.int .i64 (o : Int))) := hRj.read (hRj.rd.open_ o) ((Read.refl r wr).set_ 2 _) hjs
      have hAr : Read r wr (wr.setCell ⟨r, 2, none⟩ (.int .i64 (o : Int))) := (Read.refl r wr).set_ 2 _
      have cN := next_s hA
      replace hA := Aside0.mk hA
      replace hAr := Aside0.mk hAr
      have hbl := byteAt_lt s j
      by_cases hcb : byteAt s j = c
      · rw [if_pos hcb] at hx
        have b3 : ((byteAt s j : Int) != (c : Int)) = false := by simp; omega
        have hjl : j < s.size := byteAt_in (by omega)
        clear hcb
        replace hx := Aside0.mk hx
        have e3 : (((j + 1 : Nat) : Int)) = (j : Int) + 1 := by omega
        go_wp2_with (go_at_call 81; refine cN.mono ?_; rintro e w4 ⟨rfl, hR4, hb4⟩; have hc4 := cellAll hR4.rd; have hf4 := frozenAll hR4.rd; have hR5 := Aside0.mk (hR4.read (hR4.rd.at_ (j + 1)) ((Read.refl r w4).set_ 1 _) (by omega)); have hW5 := Aside0.mk ((Read.of_below (r := r) hb4).set_ 1 (.int .i64 ((j + 1 : Nat) : Int))); rw [e3] at hR5 hW5)
        go_ret
        rw [hx.out]
        exact ⟨rfl, hR5.out, wr, j, hr.st, hAr.out.trans hW5.out⟩
      · rw [if_neg hcb] at hx
        have b3 : ((byteAt s j : Int) != (c : Int)) = true := by simp; omega
        clear hcb
        replace hx := Aside0.mk hx
        go_wp2_with (go_at_call 81; refine cN.mono ?_; rintro e w4 ⟨rfl, hR4, hb4⟩; have hc4 := cellAll hR4.rd; have hd4 := hR4.er.due_cell)
        go_region_held3 (fun w' => w'.cell? ⟨r, 1, none⟩ = some (.int .i64 j) ∧ w'.cell? ⟨1, 0, none⟩ = some (.iface 228 (.pointer (some E.due))))
          (first | (simp; done) | (simp [*]; done))
          (first | (go_at_call 56; refine (fail_any _ _ _ _).mono ?_; rintro e w9 ⟨v, rfl, ⟨kk, rfl, hk⟩, hb9⟩; replace hk := Aside0.mk hk; have hb10 : Below w4.heap.size w4 w9 := ⟨hb9.os, hb9.tape, hb9.output, hb9.size, hb9.block⟩; have hc9 := cellAll (hR4.below hb10).rd; have hd9 := (hR4.below hb10).er.due_cell))
        all_goals (go_wp2_with fail)
        rw [hx.out]
        exact bodyPost_ret (v := .iface 94 (.pointer (some ⟨kk, 0, none⟩))) (by simp [results, Tryz.results82, Act.put, go_sem]) rfl ⟨_, rfl, ⟨kk, rfl, hk.out⟩, hOK0.out.bx _ _ _ _ hr.st (hAr.out.trans ((Read.of_below hb4).trans (Read.of_below hb10))), j, o, hR4.below hb10⟩
end Go.Proofs.YtkdeleafgailhaaGreatDoor
end
