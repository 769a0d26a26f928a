/- Events in memory; record.parts, may, taken. Arguments: an api.Event, a slice of bytes: what a row's reading says of them. What a row of the record layer lists: ErrEvent, record.kinds; a slice of bytes as an argument, bounded. record.taken, may. record.outcome writes. -/
import Derived.Test.YtkdeleafgailhaaGreatDoorH22
import Derived.Test.YtkdeleafgailhaaGreatDoorH23
import Derived.Test.YtkdeleafgailhaaGreatDoorH20
section
set_option linter.unusedVariables false
set_option linter.unusedSimpArgs false
namespace Go.Proofs.YtkdeleafgailhaaGreatDoor
open Go Go.RowKit Go.Proofs.YtkdeleafgailhaaGreatDoorW.PrintWords

/-- The cells of an event, its place's slice and its value's cells given. -/
def Evn.cells (e : Evn) (pl : Value) (vs : List Value) : List Value := .int .i64 e.kind :: pl :: .int .i64 e.time :: .bool e.out.fine :: (vs ++ [.string ⟨e.out.err.toArray⟩, .string ⟨e.out.cause.toArray⟩, .string ⟨e.machine.toArray⟩, .string ⟨e.input.toArray⟩, .int .i64 e.fuel])
def EvK (w : World) (e : Evn) (cs : List Value) : Prop := ∃ A c vs, cs = e.cells (.slice A e.place.length c) vs ∧ ReadsInt w .i64 A e.place.length e.place ∧ e.place.length ≤ c ∧ kV.K w e.out.value vs
structure Evn.fits (e : Evn) : Prop where
  kind : -9223372036854775808 ≤ e.kind ∧ e.kind ≤ 9223372036854775807
  time : -9223372036854775808 ≤ e.time ∧ e.time ≤ 9223372036854775807
  fuel : -9223372036854775808 ≤ e.fuel ∧ e.fuel ≤ 9223372036854775807
  place : ∀ z ∈ e.place, -9223372036854775808 ≤ z ∧ z ≤ 9223372036854775807
  err : e.out.err.length ≤ 140737488355328
  cause : e.out.cause.length ≤ 140737488355328
  machine : e.machine.length ≤ 140737488355328
  input : e.input.length ≤ 140737488355328
  value : e.out.value.fits
theorem EvK.below {w w' : World} {e : Evn} {cs : List Value} (h : EvK w e cs) (hb : Below w.heap.size w w') : EvK w' e cs := by
  obtain ⟨A, c, vs, h1, h2, h3, h4⟩ := h
  exact ⟨A, c, vs, h1, h2.below hb, h3, kV.K_below hb h4⟩

/-! ### the package's variables -/
def kindsA : Array Value := #[.string ⟨#[]⟩, .string ⟨#[109, 105, 102]⟩, .string ⟨#[112]⟩, .string ⟨#[112]⟩, .string ⟨#[112, 111]⟩, .string ⟨#[112, 116]⟩, .string ⟨#[112, 116]⟩, .string ⟨#[112]⟩]
structure REnv (E : ErrV) (a : Addr) (w : World) : Prop where
  env : PEnv E w
  err : w.var? Tryz.prog "voyage/api.ErrEvent" = some #[ev a]
  kinds : w.var? Tryz.prog "voyage/record.kinds" = some kindsA
theorem vars_keep {w w' : World} {n : String} {g : Nat} {vs : Array Value} (hg : Tryz.prog.globalNamed n = some g) (h : w.var? Tryz.prog n = some vs) (hb : Below w.heap.size w w') : w'.var? Tryz.prog n = some vs := by
  unfold World.var? at h ⊢
  rw [hg] at h ⊢
  simp only [Option.bind_some] at h ⊢
  rcases hh : w.heap[g]? with _ | o
  · rw [hh] at h; cases h
  · rw [hb.block g (Array.getElem?_eq_some_iff.1 hh).1]
    exact h
theorem REnv.below {E : ErrV} {a : Addr} {w w' : World} (h : REnv E a w) (hb : Below w.heap.size w w') : REnv E a w' :=
  ⟨h.env.below hb, vars_keep (g := 0) (by kernel_rfl) h.err hb, vars_keep (g := 3) (by kernel_rfl) h.kinds hb⟩
theorem REnv.cell {E : ErrV} {a : Addr} {w : World} (h : REnv E a w) : w.cell? ⟨0, 0, none⟩ = some (.iface 228 (.pointer (some a))) := (var_block (by kernel_rfl) h.err).2
theorem REnv.kcell {E : ErrV} {a : Addr} {w : World} (h : REnv E a w) (j : Nat) : w.cell? ⟨3, j, none⟩ = kindsA[j]? := World.var?_cell (by kernel_rfl) h.kinds j

/-! ### parts -/
def EvPart.byte : EvPart → UInt8 | .m => 109 | .i => 105 | .f => 102 | .t => 116 | .p => 112 | .o => 111
def partsS (k : Int) : ByteArray := ⟨((partsOf k).map EvPart.byte).toArray⟩
theorem parts_out {k : Int} (h : ¬ (1 ≤ k ∧ k ≤ 7)) : partsS k = ⟨#[]⟩ := by
  have : partsOf k = [] := by
    apply Decidable.byContradiction
    intro h2
    exact h (parts_range h2)
  unfold partsS
  rw [this]
  rfl
set_option maxRecDepth 100000 in
set_option maxHeartbeats 4000000 in
theorem parts_any (E : ErrV) (a : Addr) (k : Int) (w : World) (h : REnv E a w) :
    Calls Tryz.prog 45 #[.int .i64 k] w fun e w' => e = .returned (.string (partsS k)) ∧ w' = w := by
  have hc := h.kcell
  by_cases h0 : k < 0
  · rw [parts_out (by omega)]
    go_enter Tryz.func45, Tryz.ntmps45
    go_wp2_with fail
    go_ret
    exact ⟨rfl, rfl⟩
  by_cases h8 : 8 ≤ k
  · rw [parts_out (by omega)]
    go_enter Tryz.func45, Tryz.ntmps45
    go_wp2_with fail
    go_ret
    exact ⟨rfl, rfl⟩
  have c0 := hc 0
  have c1 := hc 1
  have c2 := hc 2
  have c3 := hc 3
  have c4 := hc 4
  have c5 := hc 5
  have c6 := hc 6
  have c7 := hc 7
  clear hc h
  simp [kindsA] at c0 c1 c2 c3 c4 c5 c6 c7
  have hk : k = 0 ∨ k = 1 ∨ k = 2 ∨ k = 3 ∨ k = 4 ∨ k = 5 ∨ k = 6 ∨ k = 7 := by omega
  rcases hk with rfl | rfl | rfl | rfl | rfl | rfl | rfl | rfl
  all_goals go_enter Tryz.func45, Tryz.ntmps45
  all_goals go_wp2_with fail
  all_goals go_ret
  all_goals exact ⟨by simp [partsS, partsOf, EvPart.byte], rfl⟩

/-! ### may -/
def farB (n : Int) : Bool := decide (n < 0) || decide (2147483647 < n)
set_option maxRecDepth 100000 in
set_option maxHeartbeats 4000000 in
theorem far_any (n : Int) (w : World) : Calls Tryz.prog 77 #[.int .i64 n] w fun e w' => e = .returned (.bool (farB n)) ∧ w' = w := by
  unfold farB
  by_cases h0 : n < 0
  · go_enter Tryz.func77, Tryz.ntmps77
    go_wp2_with fail
    go_ret
    exact ⟨by simp [h0], rfl⟩
  · go_enter Tryz.func77, Tryz.ntmps77
    go_wp2_with fail
    go_ret
    exact ⟨by first | (simp [h0]; done) | (simp [h0]; omega), rfl⟩
set_option maxRecDepth 100000 in
set_option maxHeartbeats 4000000 in
theorem indexFar (w : World) (A : Option Addr) (n c : Nat) (xs : List Int) (hn : n ≤ 192) (hR : ReadsInt w .i64 A n xs) :
    Calls Tryz.prog 105 #[.slice A n c, .func (.func 77) #[] #[]] w fun e w' => ∃ q : Int, e = .returned (.int .i64 q) ∧ decide (0 ≤ q) = xs.any farB ∧ w' = w := by
  have hlen := hR.1
  replace hlen := Aside0.mk hlen
  go_enter Tryz.func105, Tryz.ntmps105
  go_wp2_with fail
  go_loopw [8] (fun i wr => ∃ j : Nat, i = .int .i64 j ∧ j ≤ n ∧ wr = w ∧ Aside0 ((xs.take j).any farB = false)) (fun i _ => n - (intOf i).toNat)
  case atStart => exact ⟨0, rfl, Nat.zero_le _, rfl, ⟨rfl⟩⟩
  case round =>
    obtain ⟨j, rfl, hj, rfl, hno⟩ := hrel
    by_cases hlt : j < n
    · have hltI : (j : Int) < (n : Int) := by omega
      obtain ⟨ad, rfl, hcell⟩ := hR.at_ (j : Int) (by omega) (by omega)
      rw [Int.toNat_natCast] at hcell
      have hrd : rd xs (j : Int) = xs.getD j 0 := by unfold rd; rw [Int.toNat_natCast]
      rw [hrd] at hcell
      have hx : xs[j]? = some (xs.getD j 0) := by
        rw [List.getD_eq_getElem?_getD, List.getElem?_eq_getElem (by rw [hlen.out]; exact hlt)]; rfl
      have hsn : (xs.take (j + 1)).any farB = farB (xs.getD j 0) := by
        rw [List.take_add_one, hx, Option.toList_some, List.any_append, hno.out, Bool.false_or, List.any_cons, List.any_nil, Bool.or_false]
      have hall : farB (xs.getD j 0) = true → xs.any farB = true := fun h1 => List.any_eq_true.2 ⟨_, List.mem_of_getElem? hx, h1⟩
      have cF := far_any (xs.getD j 0) wr
      replace hx := Aside0.mk hx
      replace hsn := Aside0.mk hsn
      replace hall := Aside0.mk hall
      generalize xs.getD j 0 = z at *
      generalize farB z = b at *
      cases b with
      | true =>
        have hall2 := Aside0.mk (hall.out rfl)
        clear hall
        go_wp2_with (go_at_call 77; refine cF.mono ?_; rintro e w1 ⟨rfl, rfl⟩)
        go_ret
        exact ⟨j, rfl, by rw [hall2.out]; simp, rfl⟩
      | false =>
        go_wp2_with (go_at_call 77; refine cF.mono ?_; rintro e w1 ⟨rfl, rfl⟩)
        go_roundw
        case rel => exact ⟨j + 1, by go_num, by omega, by first | rfl | trivial, ⟨hsn.out⟩⟩
        case measure => simp [intOf]; omega
    · obtain rfl : j = n := by omega
      have htk : xs.any farB = false := by have := hno.out; rwa [← hlen.out, List.take_length] at this
      replace htk := Aside0.mk htk
      go_wp2_with fail
      go_ret
      exact ⟨-1, rfl, by rw [htk.out]; rfl, rfl⟩
set_option maxRecDepth 100000 in
set_option maxHeartbeats 4000000 in
theorem hasFar (w : World) (A : Option Addr) (n c : Nat) (xs : List Int) (hn : n ≤ 192) (hR : ReadsInt w .i64 A n xs) :
    Calls Tryz.prog 78 #[.slice A n c, .func (.func 77) #[] #[]] w fun e w' => e = .returned (.bool (xs.any farB)) ∧ w' = w := by
  have cI := indexFar w A n c xs hn hR
  generalize xs.any farB = b at cI ⊢
  go_enter Tryz.func78, Tryz.ntmps78
  go_wp2_with (go_at_call 105; refine cI.mono ?_; rintro e w1 ⟨q, rfl, rfl, hb⟩; subst hb)
  go_ret
  exact ⟨rfl, rfl⟩
theorem far_all (l : List Int) : (!l.any farB) = true ↔ ∀ n ∈ l, 0 ≤ n ∧ n ≤ 2147483647 := by
  rw [Bool.not_eq_true', List.any_eq_false]
  refine forall_congr' fun n => forall_congr' fun _ => ?_
  unfold farB
  simp
end Go.Proofs.YtkdeleafgailhaaGreatDoor
end
section
set_option linter.unusedVariables false
set_option linter.unusedSimpArgs false
namespace Go.Proofs.YtkdeleafgailhaaGreatDoor
open Go Go.RowKit Go.Proofs.YtkdeleafgailhaaGreatDoorW.PrintWords Go.ChangeShapes Go.WideShapes

theorem cellsOf_E : Tryz.prog.cellsOf 48 = 17 := by kernel_rfl
theorem cellsOf_O : Tryz.prog.cellsOf 46 = 11 := by kernel_rfl
theorem cellsOf_i64 : Tryz.prog.cellsOf 2 = 1 := by kernel_rfl
theorem cellsOf_li : Tryz.prog.cellsOf 44 = 1 := by kernel_rfl
theorem cellsOf_u8 : Tryz.prog.cellsOf 5 = 1 := by kernel_rfl
theorem list4 {α : Type} {l : List α} (h : l.length = 4) : ∃ c0 c1 c2 c3, l = [c0, c1, c2, c3] := by
  match l, h with
  | [c0, c1, c2, c3], _ => exact ⟨c0, c1, c2, c3, rfl⟩
theorem list7 {α : Type} {l : List α} (h : l.length = 7) : ∃ c0 c1 c2 c3 c4 c5 c6, l = [c0, c1, c2, c3, c4, c5, c6] := by
  match l, h with
  | [c0, c1, c2, c3, c4, c5, c6], _ => exact ⟨c0, c1, c2, c3, c4, c5, c6, rfl⟩
theorem list17 {α : Type} {l : List α} (h : l.length = 17) : ∃ c0 c1 c2 c3 c4 c5 c6 c7 c8 c9 c10 c11 c12 c13 c14 c15 c16, l = [c0, c1, c2, c3, c4, c5, c6, c7, c8, c9, c10, c11, c12, c13, c14, c15, c16] := by
  match l, h with
  | [c0, c1, c2, c3, c4, c5, c6, c7, c8, c9, c10, c11, c12, c13, c14, c15, c16], _ => exact ⟨c0, c1, c2, c3, c4, c5, c6, c7, c8, c9, c10, c11, c12, c13, c14, c15, c16, rfl⟩
section
variable {H : Type} {enc : TypeId × Value → H} {w : World} {spare : Nat → Bool} {held : Bool}
set_option maxRecDepth 100000 in
theorem trod_li {fuel : Nat} {cs : List Value} {x : DataW H × List MemPlace} (h : DataW.trod enc Tryz.prog w 0 spare held fuel 44 cs = some x) :
    ∃ (A : Option Addr) (n c : Nat) (zs : List Int), cs = [.slice A n c] ∧ ReadsInt w .i64 A n zs ∧ n ≤ c ∧ ∀ z ∈ zs, -9223372036854775808 ≤ z ∧ z ≤ 9223372036854775807 := by
  rcases open_ints Tryz.underlying44 Tryz.underlying3 cellsOf_int h with ⟨hcs, hx⟩ | ⟨a, len', cap', zs, hcs, _, hl, hm, hz, hx, hcell, hwz⟩
  · exact ⟨none, 0, 0, [], hcs, ⟨rfl, by decide, fun h => absurd h (by decide)⟩, Nat.le_refl _, fun z h => nomatch h⟩
  · have hlz : len' ≤ zs.length := by rw [hz]; split <;> omega
    refine ⟨some a, len', cap', zs.take len', hcs, ⟨by rw [List.length_take]; omega, ?_, fun _ => ⟨a, rfl, fun j hj => ?_⟩⟩, hl, fun z hzm => wf_i64 (hwz z (List.mem_of_mem_take hzm))⟩
    · simp only [maxLen] at hm; omega
    · rw [hcell j (by omega)]
      congr 2
      rw [List.getD_eq_getElem?_getD, List.getD_eq_getElem?_getD, List.getElem?_take_of_lt hj]
theorem wf_u8 {z : Int} (h : (Lit.int .u8 z).wf = true) : 0 ≤ z ∧ z ≤ 255 := by
  simpa [Lit.wf, IntKind.min, IntKind.max, IntKind.signed, IntKind.bits] using h
/-- Ints of a byte each are bytes. -/
theorem bytes_of : ∀ {zs : List Int}, (∀ z ∈ zs, 0 ≤ z ∧ z ≤ 255) → ∃ bs, zs = bint bs
  | [], _ => ⟨[], rfl⟩
  | z :: zs, h => by
    obtain ⟨bs, rfl⟩ := bytes_of (fun y hy => h y (.tail _ hy))
    have hz := h z (.head _)
    refine ⟨UInt8.ofNat z.toNat :: bs, ?_⟩
    show _ = ((UInt8.ofNat z.toNat).toNat : Int) :: bint bs
    rw [u8_toNat (by omega), Int.toNat_of_nonneg hz.1]
set_option maxRecDepth 100000 in
/-- An argument that is a slice of bytes. -/
theorem arg_B {r : Reach} {b0 : Nat} {v : Value} {d : DataW H} {ps : List MemPlace} (hv : Value.okWide Tryz.prog w r b0 49 v) (h : DataW.Trod enc Tryz.prog w 0 spare held 49 v d ps) :
    ∃ (A : Option Addr) (c : Nat) (bs : List UInt8), v = .slice A bs.length c ∧ ReadsInt w .u8 A bs.length (bint bs) ∧ bs.length ≤ c := by
  obtain ⟨a0, len, cap, rfl⟩ := okWide_slice Tryz.underlying49 hv
  obtain ⟨fuel, hf⟩ := h
  rcases open_ints Tryz.underlying49 Tryz.underlying5 cellsOf_u8 hf with ⟨hcs, hx⟩ | ⟨a, len', cap', zs, hcs, _, hl, hm, hz, hx, hcell, hwz⟩
  · have e : a0 = none ∧ len = 0 ∧ cap = 0 := by simpa [Value.cells] using hcs
    obtain ⟨rfl, rfl, rfl⟩ := e
    exact ⟨none, 0, [], rfl, ⟨rfl, by decide, fun h => absurd h (by decide)⟩, Nat.le_refl _⟩
  · have e : a0 = some a ∧ len = len' ∧ cap = cap' := by simpa [Value.cells] using hcs
    obtain ⟨rfl, rfl, rfl⟩ := e
    have hlz : len ≤ zs.length := by rw [hz]; split <;> omega
    obtain ⟨bs, hbs⟩ := bytes_of (zs := zs.take len) (fun z hzm => wf_u8 (hwz z (List.mem_of_mem_take hzm)))
    have hbl : bs.length = len := by
      have := congrArg List.length hbs
      rw [bint_len, List.length_take] at this
      omega
    refine ⟨some a, cap, bs, by rw [hbl], ?_, by omega⟩
    rw [hbl, ← hbs]
    refine ⟨by rw [List.length_take]; omega, ?_, fun _ => ⟨a, rfl, fun j hj => ?_⟩⟩
    · simp only [maxLen] at hm; omega
    · rw [hcell j (by omega)]
      congr 2
      rw [List.getD_eq_getElem?_getD, List.getD_eq_getElem?_getD, List.getElem?_take_of_lt hj]
theorem str_back (s : ByteArray) : (⟨s.data.toList.toArray⟩ : ByteArray) = s := by cases s; simp
set_option maxRecDepth 100000 in
/-- An argument of type api.Event. -/
theorem arg_E {r : Reach} {b0 : Nat} {v : Value} {d : DataW H} {ps : List MemPlace} (hv : Value.okWide Tryz.prog w r b0 48 v) (h : DataW.Trod enc Tryz.prog w 0 spare held 48 v d ps) (hs : Sm 48 d) :
    ∃ (cs : List Value) (e : Evn), v = .agg cs.toArray ∧ EvK w e cs ∧ e.fits := by
  obtain ⟨cs, rfl, hsz⟩ := okWide_struct Tryz.underlying48 hv
  obtain ⟨fuel, hf⟩ := h
  have hmx : reachBytes ≤ 140737488355328 := by decide
  obtain ⟨ys, n, rfl, hpr, hlen, hys, hfs⟩ := DataW.trod_struct Tryz.underlying48 hf
  obtain ⟨rfl, rfl⟩ := Prod.mk.inj hpr
  obtain ⟨c0, c1, c2, c3, c4, c5, c6, c7, c8, c9, c10, c11, c12, c13, c14, c15, c16, hcs⟩ := list17 (hlen.trans cellsOf_E)
  obtain ⟨y0, y1, y2, y3, y4, y5, y6, rfl⟩ := list7 hys
  rw [hcs] at hfs
  have h0 := hfs 0 _ rfl
  have h1 := hfs 1 _ rfl
  have h2 := hfs 2 _ rfl
  have h3 := hfs 3 _ rfl
  have h4 := hfs 4 _ rfl
  have h5 := hfs 5 _ rfl
  have h6 := hfs 6 _ rfl
  simp [cellsOf_int, cellsOf_O, cellsOf_str, cellsOf_li, cellsOf_i64] at h0 h1 h2 h3 h4 h5 h6
  have s3 := Sm.part Tryz.underlying48 hs (j := 3) rfl rfl
  have s4 := Sm.part Tryz.underlying48 hs (j := 4) rfl rfl
  have s5 := Sm.part Tryz.underlying48 hs (j := 5) rfl rfl
  obtain ⟨k, e0, _, hk⟩ := DataW.trod_int Tryz.underlying3 h0
  obtain ⟨A, ln, lc, zs, e1, hR, hlc, hzs⟩ := trod_li h1
  obtain ⟨tm, e2, _, htm⟩ := DataW.trod_int Tryz.underlying2 h2
  obtain ⟨os, m, _, rfl, holen, hos, hg⟩ := DataW.trod_struct Tryz.underlying46 h3
  obtain ⟨z0, z1, z2, z3, rfl⟩ := list4 hos
  have g0 := hg 0 _ rfl
  have g1 := hg 1 _ rfl
  have g2 := hg 2 _ rfl
  have g3 := hg 3 _ rfl
  simp [cellsOf_bool, cellsOf_str, cellsOf_V] at g0 g1 g2 g3
  have s31 := Sm.part Tryz.underlying46 s3 (j := 1) rfl rfl
  have s32 := Sm.part Tryz.underlying46 s3 (j := 2) rfl rfl
  have s33 := Sm.part Tryz.underlying46 s3 (j := 3) rfl rfl
  obtain ⟨fi, e3, _⟩ := DataW.trod_bool Tryz.underlying4 g0
  obtain ⟨x, hx, hxf⟩ := trod_V _ _ _ g1 s31
  obtain ⟨er, e4, rfl, her⟩ := DataW.trod_string Tryz.underlying9 g2
  obtain ⟨ca, e5, rfl, hca⟩ := DataW.trod_string Tryz.underlying9 g3
  obtain ⟨mc, e6, rfl, hmc⟩ := DataW.trod_string Tryz.underlying9 h4
  obtain ⟨inp, e7, rfl, hin⟩ := DataW.trod_string Tryz.underlying9 h5
  obtain ⟨fl, e8, _, hfl⟩ := DataW.trod_int Tryz.underlying3 h6
  have n4 := Sm.str s32
  have n5 := Sm.str s33
  have n6 := Sm.str s4
  have n7 := Sm.str s5
  simp at e0 e1 e2 e3 e4 e5 e6 e7 e8
  subst e0 e1 e2 e3 e4 e5 e6 e7 e8
  have hln : zs.length = ln := hR.1
  have q : ∀ s : ByteArray, s.data.toList.length = s.size := fun s => Array.length_toList
  refine ⟨_, ⟨k, zs, tm, ⟨fi, x, er.data.toList, ca.data.toList⟩, mc.data.toList, inp.data.toList, fl⟩, rfl, ⟨A, lc, [c4, c5, c6, c7, c8, c9, c10, c11], ?_, by rw [hln]; exact hR, by rw [hln]; exact hlc, hx⟩, ⟨wf64 hk, wf64 htm, wf64 hfl, hzs, ?_, ?_, ?_, ?_, hxf⟩⟩
  · show cs.toList = _
    unfold Evn.cells
    simp only [str_back, hln]
    simpa [Value.cells] using hcs
  · show er.data.toList.length ≤ _; rw [q]; omega
  · show ca.data.toList.length ≤ _; rw [q]; omega
  · show mc.data.toList.length ≤ _; rw [q]; omega
  · show inp.data.toList.length ≤ _; rw [q]; omega
theorem trod_lt_E {t : TypeId} {v : Value} {d : DataW H} {ps : List MemPlace} (h : DataW.Trod enc Tryz.prog w 0 spare held t v d ps) : ∀ x ∈ ps, x.block < w.heap.size := by
  obtain ⟨m, hm⟩ := h
  exact DataW.trod_lt m _ _ _ hm
end
end Go.Proofs.YtkdeleafgailhaaGreatDoor
end
section
set_option linter.unusedVariables false
set_option linter.unusedSimpArgs false
namespace Go.Proofs.YtkdeleafgailhaaGreatDoor
open Go Go.RowKit Go.Proofs.YtkdeleafgailhaaGreatDoorW.PrintWords Go.ChangeShapes Go.WideShapes Go.Lib

def strData {H : Type} (zs : List (List UInt8)) : DataW H := .agg (zs.map fun z => .lit (.string z))
theorem cells_of_strs {H : Type} {enc : TypeId × Value → H} {P : Program} {w : World} {base : Nat} {sp : Nat → Bool} {held : Bool} {fuel : Nat} {t e : TypeId} {n : Nat} {cs : List Value} {zs : List (List UInt8)} {p : List MemPlace}
    (ht : P.underlying t = some (.array n e)) (he : P.underlying e = some .string) (hce : P.cellsOf e = 1) (hct : P.cellsOf t = n)
    (h : DataW.trod enc P w base sp held fuel t cs = some (strData zs, p)) : cs = zs.map fun z => Value.string ⟨z.toArray⟩ := by
  obtain ⟨xs, m, rfl, hx, hl, hxl, hf⟩ := DataW.trod_array ht h
  have hxs : zs.map (fun z => (DataW.lit (.string z) : DataW H)) = xs.map (·.1) := by
    have := congrArg Prod.fst hx
    simpa [strData] using this
  have hzl : zs.length = n := by
    have := congrArg List.length hxs
    simp at this
    omega
  rw [hct] at hl
  apply List.ext_getElem?
  intro i
  by_cases hi : i < n
  · have h1 := hf i hi
    rw [hce, Nat.mul_one, List.getElem?_eq_getElem (by omega)] at h1
    obtain ⟨s, hc, hd, _⟩ := DataW.trod_string he h1
    have h2 : cs[i]? = some (.string s) := by
      have := congrArg (·[0]?) hc
      simpa [List.getElem?_take, List.getElem?_drop] using this
    have h3 : (xs.map (·.1))[i]? = some (DataW.lit (.string s.data.toList) : DataW H) := by simp [List.getElem?_eq_getElem (show i < xs.length by omega), hd]
    rw [← hxs] at h3
    simp only [List.getElem?_map, Option.map_eq_some_iff, DataW.lit.injEq, Lit.string.injEq] at h3
    obtain ⟨z, hz, rfl⟩ := h3
    rw [h2, List.getElem?_map, hz, Option.map_some, str_back]
  · rw [List.getElem?_eq_none (by omega), List.getElem?_eq_none (by simp; omega)]
def kindsL : List (List UInt8) := [[], [109, 105, 102], [112], [112], [112, 111], [112, 116], [112, 116], [112]]
theorem kinds_eq : (Rows.laid_voyage_record_kinds : DataW Unit) = strData kindsL := by kernel_rfl
theorem kinds_of {W : World} (h : VarReads Tryz.prog W "voyage/record.kinds" (strData kindsL)) : W.var? Tryz.prog "voyage/record.kinds" = some kindsA := by
  obtain ⟨g', t', cs, fuel, p, hg', ht', hvar, hd⟩ := h
  obtain rfl := Option.some.inj ((show Tryz.prog.globalNamed "voyage/record.kinds" = some 3 by kernel_rfl).symm.trans hg')
  obtain rfl := Option.some.inj ((show (Tryz.prog.globals[3]?).map (·.type) = some 119 by kernel_rfl).symm.trans ht')
  have hc := cells_of_strs Tryz.underlying119 Tryz.underlying9 (by kernel_rfl) (by kernel_rfl) hd
  rw [hvar]
  have e : cs = (kindsL.map fun z => Value.string ⟨z.toArray⟩).toArray := by rw [← hc]
  rw [e]
  rfl
theorem renv_of {l hs : List (String × DataW Unit)} {W : World} (hd : laidMet Tryz.prog l W) (hh : handlesMet Tryz.prog hs W) (mh : ("errors.errorType", Rows.laid_errors_errorType) ∈ hs)
    (m1 : ("voyage/api.ErrDue", Rows.laid_voyage_api_ErrDue) ∈ l) (m2 : ("voyage/api.ErrLong", Rows.laid_voyage_api_ErrLong) ∈ l) (m3 : ("voyage/api.ErrDeep", Rows.laid_voyage_api_ErrDeep) ∈ l) (m4 : ("voyage/api.ErrTwice", Rows.laid_voyage_api_ErrTwice) ∈ l)
    (m5 : ("voyage/api.ErrText", Rows.laid_voyage_api_ErrText) ∈ l) (m6 : ("voyage/api.ErrNumber", Rows.laid_voyage_api_ErrNumber) ∈ l) (m7 : ("voyage/api.ErrExponent", Rows.laid_voyage_api_ErrExponent) ∈ l) (m8 : ("strconv.ErrSyntax", Rows.laid_strconv_ErrSyntax) ∈ l)
    (m9 : ("unicode/utf8.first", Rows.laid_unicode_utf8_first) ∈ l) (m10 : ("unicode/utf8.acceptRanges", Rows.laid_unicode_utf8_acceptRanges) ∈ l) (m11 : ("internal/strconv.uint64pow10", Rows.laid_internal_strconv_uint64pow10) ∈ l)
    (m12 : ("voyage/api.ErrEvent", Rows.laid_voyage_api_ErrEvent) ∈ l) (m13 : ("voyage/record.kinds", Rows.laid_voyage_record_kinds) ∈ l) : ∃ E a, REnv E a W := by
  obtain ⟨E, hE⟩ := penv_of hd hh mh m1 m2 m3 m4 m5 m6 m7 m8 m9 m10 m11
  obtain ⟨a, ha⟩ := sentinel_mem (g := 0) (by kernel_rfl) (by kernel_rfl) hd m12
  exact ⟨E, a, hE, ha, kinds_of (kinds_eq ▸ laidMet.reads hd m13)⟩
section
variable {H : Type} {enc : TypeId × Value → H} {w : World} {spare : Nat → Bool} {held : Bool}
theorem bytesOf_u8 : Tryz.prog.bytesOf 5 = 1 := by kernel_rfl
theorem len_B {A : Option Addr} {n c : Nat} {d : DataW H} {ps : List MemPlace} (h : DataW.Trod enc Tryz.prog w 0 spare held 49 (.slice A n c) d ps) (hs : Sm 49 d) : n ≤ 140737488355328 := by
  obtain ⟨fuel, hf⟩ := h
  have hmx : reachBytes ≤ 140737488355328 := by decide
  rcases DataW.trod_slice Tryz.underlying49 hf with ⟨hcs, _⟩ | ⟨a, len, cap, elems, rest, m, hx, hcs, hy, hb, hl, hm, hlen, hel, _, _⟩
  · have e : A = none ∧ n = 0 ∧ c = 0 := by simpa [Value.cells] using hcs
    omega
  · have e : A = some a ∧ n = len ∧ c = cap := by
      first
        | simpa [Value.cells] using hcs
        | simpa [Value.cells] using hx
        | simpa [Value.cells] using hy
    obtain ⟨rfl, rfl, rfl⟩ := e
    have hd : d = .slice (elems.map (·.1)) (rest.map (·.1)) := by
      first
        | exact (Prod.mk.inj hcs).1
        | exact (Prod.mk.inj hx).1
        | exact (Prod.mk.inj hy).1
    subst hd
    have h1 := hs (((elems.map (·.1)).length + (rest.map (·.1)).length) * 1) (by rw [← bytesOf_u8]; simp [DataW.weights, Tryz.underlying49])
    have h2 : n ≤ (elems.map (·.1)).length + (rest.map (·.1)).length := by simp; omega
    omega
end
end Go.Proofs.YtkdeleafgailhaaGreatDoor
end
section
set_option linter.unusedVariables false
set_option linter.unusedSimpArgs false
namespace Go.Proofs.YtkdeleafgailhaaGreatDoor
open Go Go.RowKit Go.Proofs.YtkdeleafgailhaaGreatDoorW.PrintWords

/-- A bool is returned: does P hold? -/
def BoolIs (P : Prop) (w : World) (e : Ending) (w' : World) : Prop := ∃ b : Bool, e = .returned (.bool b) ∧ (b = true ↔ P) ∧ Below w.heap.size w w'
theorem nul_K (w : World) : kV.K w JV.nul nulCells := kV_mkK (x := JV.nul) (A := none) (B := none) (c := 0) (d := 0) (Nat.le_refl _) ⟨rfl, by decide, fun h => absurd h (by decide)⟩ (Nat.le_refl _) ⟨rfl, by decide, fun h => absurd h (by decide)⟩
theorem str_empty (l : List UInt8) : (⟨l.toArray⟩ : ByteArray).toList.isEmpty = decide (l = []) := by
  rw [toList_eq]
  cases l with
  | nil => rfl
  | cons c l => simp
theorem valid_of (l : List UInt8) : (⟨l.toArray⟩ : ByteArray).data.toList = l := by simp
theorem size_of_l (l : List UInt8) : (⟨l.toArray⟩ : ByteArray).size = l.length := by simp [ByteArray.size]

set_option maxRecDepth 100000 in
set_option maxHeartbeats 8000000 in
theorem taken_fine (o : Outc) (hf : o.fine = true) (w : World) (vs : List Value) (hK : kV.K w o.value vs) (hF : Facts w) (hwt : o.value.wt ≤ 1073741824) (hin : o.value.ints) :
    Calls Tryz.prog 79 #[.agg (.bool true :: (vs ++ [.string ⟨o.err.toArray⟩, .string ⟨o.cause.toArray⟩])).toArray] w fun e w' => BoolIs (takenP o) w e w' := by
  have hP : takenP o ↔ ((o.err = [] ∧ o.cause = []) ∧ o.value.norm.deep ≤ 64 ∧ o.value.print.length ≤ 1048576) := by unfold takenP; rw [if_pos hf]
  have be := str_empty o.err
  have bc := str_empty o.cause
  obtain ⟨A, c, B, d, rfl, _⟩ := VC.of hK
  unfold JV.cells at *
  have hB0 := (Below.refl w.heap.size w).alloc (Nat.le_refl _) (.cells #[.bool true, .int .i64 o.value.kind, .bool o.value.truth, .bool o.value.neg, .string o.value.digits, .int .i64 o.value.exp, .string o.value.text, .slice A o.value.list.length c, .slice B o.value.fields.length d, .string ⟨o.err.toArray⟩, .string ⟨o.cause.toArray⟩] 46)
  have hbx := heap_alloc_new w (.cells #[.bool true, .int .i64 o.value.kind, .bool o.value.truth, .bool o.value.neg, .string o.value.digits, .int .i64 o.value.exp, .string o.value.text, .slice A o.value.list.length c, .slice B o.value.fields.length d, .string ⟨o.err.toArray⟩, .string ⟨o.cause.toArray⟩] 46)
  have hc0 := cellAll hbx
  have cD := depth_any o.value _ _ (kV.K_below hB0 hK) (hF.below hB0) hwt hin
  have cR := fun (W : World) (hb : Below w.heap.size w W) => print_any o.value W _ (kV.K_below hb hK) (hF.below hb) hwt hin
  have hsz := size_of_l o.value.print
  generalize (⟨o.value.print.toArray⟩ : ByteArray) = pr at *
  generalize o.value.print = prl at *
  rw [← hsz] at hP
  clear hsz prl
  generalize (⟨o.err.toArray⟩ : ByteArray) = es at *
  generalize (⟨o.cause.toArray⟩ : ByteArray) = ca at *
  replace hP := Aside0.mk hP
  replace hB0 := Aside0.mk hB0
  replace hbx := Aside0.mk hbx
  clear hK hF hwt hin
  by_cases he : o.err = []
  · rw [decide_eq_true he] at be
    by_cases hcz : o.cause = []
    · rw [decide_eq_true hcz] at bc
      replace he := Aside0.mk he
      replace hcz := Aside0.mk hcz
      by_cases hd : o.value.norm.deep ≤ 64
      · have hdI : (o.value.norm.deep : Int) ≤ 64 := by omega
        go_enter Tryz.func79, Tryz.ntmps79
        go_wp2_with (first
          | (go_at_call 29; refine (cR w1 hL1.out).mono ?_; rintro e w2 ⟨rfl, hb2⟩)
          | (go_at_call 12; refine cD.mono ?_; rintro e w1 ⟨rfl, hb1⟩; have hc1 := cellAll ((hb1.block _ (blk_lt hbx.out)).trans hbx.out); have hL1 := Aside0.mk (hB0.out.trans (hb1.mono hB0.out.size))))
        go_ret
        refine ⟨_, rfl, ?_, hL1.out.trans (hb2.mono hL1.out.size)⟩
        rw [hP.out]
        simp [he.out, hcz.out, hd]
        try omega
      · have hdI : ¬ (o.value.norm.deep : Int) ≤ 64 := by omega
        go_enter Tryz.func79, Tryz.ntmps79
        go_wp2_with (go_at_call 12; refine cD.mono ?_; rintro e w1 ⟨rfl, hb1⟩; have hc1 := cellAll ((hb1.block _ (blk_lt hbx.out)).trans hbx.out); have hL1 := Aside0.mk (hB0.out.trans (hb1.mono hB0.out.size)))
        go_ret
        refine ⟨false, rfl, ?_, hL1.out⟩
        rw [hP.out]
        simp [hd]
    · rw [decide_eq_false hcz] at bc
      replace he := Aside0.mk he
      replace hcz := Aside0.mk hcz
      go_enter Tryz.func79, Tryz.ntmps79
      go_wp2_with fail
      go_ret
      refine ⟨false, rfl, ?_, hB0.out⟩
      rw [hP.out]
      simp [hcz.out]
  · rw [decide_eq_false he] at be
    replace he := Aside0.mk he
    go_enter Tryz.func79, Tryz.ntmps79
    go_wp2_with fail
    go_ret
    refine ⟨false, rfl, ?_, hB0.out⟩
    rw [hP.out]
    simp [he.out]

set_option maxRecDepth 100000 in
set_option maxHeartbeats 8000000 in
theorem taken_not (o : Outc) (hf : o.fine = false) (w : World) (vs : List Value) (hK : kV.K w o.value vs) (hF : Facts w) (hwt : o.value.wt ≤ 1073741824) (hin : o.value.ints) (he : o.err.length ≤ 140737488355328) (hca : o.cause.length ≤ 140737488355328) :
    Calls Tryz.prog 79 #[.agg (.bool false :: (vs ++ [.string ⟨o.err.toArray⟩, .string ⟨o.cause.toArray⟩])).toArray] w fun e w' => BoolIs (takenP o) w e w' := by
  have hP : takenP o ↔ ((Lib.validD o.err = true ∧ Lib.validD o.cause = true) ∧ o.err.length + o.cause.length ≤ 1048576 ∧ o.value.print = JV.nul.print) := by unfold takenP; rw [if_neg (by rw [hf]; simp)]
  have hse := size_of_l o.err
  have hsc := size_of_l o.cause
  have hve := valid_of o.err
  have hvc := valid_of o.cause
  have hadd : IntKind.i64.wrap (((⟨o.err.toArray⟩ : ByteArray).size : Int) + ((⟨o.cause.toArray⟩ : ByteArray).size : Int)) = ((⟨o.err.toArray⟩ : ByteArray).size : Int) + ((⟨o.cause.toArray⟩ : ByteArray).size : Int) := by rw [IntKind.wrap_i64]; omega
  obtain ⟨A, c, B, d, rfl, _⟩ := VC.of hK
  unfold JV.cells at *
  have hB0 := (Below.refl w.heap.size w).alloc (Nat.le_refl _) (.cells #[.bool false, .int .i64 o.value.kind, .bool o.value.truth, .bool o.value.neg, .string o.value.digits, .int .i64 o.value.exp, .string o.value.text, .slice A o.value.list.length c, .slice B o.value.fields.length d, .string ⟨o.err.toArray⟩, .string ⟨o.cause.toArray⟩] 46)
  have hbx := heap_alloc_new w (.cells #[.bool false, .int .i64 o.value.kind, .bool o.value.truth, .bool o.value.neg, .string o.value.digits, .int .i64 o.value.exp, .string o.value.text, .slice A o.value.list.length c, .slice B o.value.fields.length d, .string ⟨o.err.toArray⟩, .string ⟨o.cause.toArray⟩] 46)
  have hc0 := cellAll hbx
  have cE := fun (W : World) (hb : Below w.heap.size w W) => Tryz.utf8_ValidString ⟨o.err.toArray⟩ W (by omega) (hF.below hb).tabs
  have cC := fun (W : World) (hb : Below w.heap.size w W) => Tryz.utf8_ValidString ⟨o.cause.toArray⟩ W (by omega) (hF.below hb).tabs
  have cS := fun (W : World) (hb : Below w.heap.size w W) => same_any o.value JV.nul W _ _ (kV.K_below hb hK) (nul_K W) (hF.below hb) hwt hin (by decide +kernel) (by unfold JV.nul; rw [JV.ints, JV.intsL, JV.intsF]; decide)
  rw [hve] at cE
  rw [hvc] at cC
  generalize (⟨o.err.toArray⟩ : ByteArray) = es at *
  generalize (⟨o.cause.toArray⟩ : ByteArray) = ca at *
  rw [← hse, ← hsc] at hP
  replace hP := Aside0.mk hP
  replace hB0 := Aside0.mk hB0
  replace hbx := Aside0.mk hbx
  clear hK hF hwt hin hse hsc hve hvc he hca
  obtain ⟨b3, hb3⟩ : ∃ b3, decide (o.value.print = JV.nul.print) = b3 := ⟨_, rfl⟩
  rw [hb3] at cS
  cases h1 : Lib.validD o.err with
  | false =>
    rw [h1] at cE
    have cE0 := cE _ hB0.out
    clear cE cC cS
    replace h1 := Aside0.mk h1
    go_enter Tryz.func79, Tryz.ntmps79
    go_wp2_with (go_at_call 67; refine cE0.mono ?_; rintro e w1 ⟨rfl, hb1⟩)
    go_ret
    refine ⟨false, rfl, ?_, hB0.out.trans (hb1.mono hB0.out.size)⟩
    rw [hP.out]
    simp [h1.out]
  | true =>
    rw [h1] at cE
    have cE0 := cE _ hB0.out
    cases h2 : Lib.validD o.cause with
    | false =>
      rw [h2] at cC
      clear cE cS
      replace h1 := Aside0.mk h1
      replace h2 := Aside0.mk h2
      go_enter Tryz.func79, Tryz.ntmps79
      go_wp2_with (first
        | (go_at_call 67; refine (cC w1 hL1.out).mono ?_; rintro e w2 ⟨rfl, hb2⟩)
        | (go_at_call 67; refine cE0.mono ?_; rintro e w1 ⟨rfl, hb1⟩; have hc1 := cellAll ((hb1.block _ (blk_lt hbx.out)).trans hbx.out); have hL1 := Aside0.mk (hB0.out.trans (hb1.mono hB0.out.size))))
      go_ret
      refine ⟨false, rfl, ?_, hL1.out.trans (hb2.mono hL1.out.size)⟩
      rw [hP.out]
      simp [h2.out]
    | true =>
      rw [h2] at cC
      clear cE
      replace h1 := Aside0.mk h1
      replace h2 := Aside0.mk h2
      by_cases h3 : es.size + ca.size ≤ 1048576
      · have h3I : (es.size : Int) + (ca.size : Int) ≤ 1048576 := by omega
        replace h3 := Aside0.mk h3
        replace hb3 := Aside0.mk hb3
        go_enter Tryz.func79, Tryz.ntmps79
        go_wp2_with (first
          | (go_at_call 30; refine (cS w2 hL2.out).mono ?_; rintro e w3 ⟨rfl, hb4⟩)
          | (go_at_call 67; refine (cC w1 hL1.out).mono ?_; rintro e w2 ⟨rfl, hb2⟩; have hb12 := hb1.trans (hb2.mono hb1.size); have hc2 := cellAll ((hb12.block _ (blk_lt hbx.out)).trans hbx.out); have hL2 := Aside0.mk (hB0.out.trans (hb12.mono hB0.out.size)); clear hc1)
          | (go_at_call 67; refine cE0.mono ?_; rintro e w1 ⟨rfl, hb1⟩; have hc1 := cellAll ((hb1.block _ (blk_lt hbx.out)).trans hbx.out); have hL1 := Aside0.mk (hB0.out.trans (hb1.mono hB0.out.size))))
        go_ret
        refine ⟨b3, rfl, ?_, hL2.out.trans (hb4.mono hL2.out.size)⟩
        rw [hP.out, ← hb3.out]
        simp [h1.out, h2.out, h3.out]
      · have h3I : ¬ (es.size : Int) + (ca.size : Int) ≤ 1048576 := by omega
        replace h3 := Aside0.mk h3
        replace hb3 := Aside0.mk hb3
        clear cS
        go_enter Tryz.func79, Tryz.ntmps79
        go_wp2_with (first
          | (go_at_call 67; refine (cC w1 hL1.out).mono ?_; rintro e w2 ⟨rfl, hb2⟩; have hb12 := hb1.trans (hb2.mono hb1.size); have hc2 := cellAll ((hb12.block _ (blk_lt hbx.out)).trans hbx.out); have hL2 := Aside0.mk (hB0.out.trans (hb12.mono hB0.out.size)); clear hc1)
          | (go_at_call 67; refine cE0.mono ?_; rintro e w1 ⟨rfl, hb1⟩; have hc1 := cellAll ((hb1.block _ (blk_lt hbx.out)).trans hbx.out); have hL1 := Aside0.mk (hB0.out.trans (hb1.mono hB0.out.size))))
        go_ret
        refine ⟨false, rfl, ?_, hL2.out⟩
        rw [hP.out]
        simp [h3.out]
theorem taken_any (o : Outc) (w : World) (vs : List Value) (hK : kV.K w o.value vs) (hF : Facts w) (hwt : o.value.wt ≤ 1073741824) (hin : o.value.ints) (he : o.err.length ≤ 140737488355328) (hca : o.cause.length ≤ 140737488355328) :
    Calls Tryz.prog 79 #[.agg (.bool o.fine :: (vs ++ [.string ⟨o.err.toArray⟩, .string ⟨o.cause.toArray⟩])).toArray] w fun e w' => BoolIs (takenP o) w e w' := by
  cases hf : o.fine with
  | true => exact taken_fine o hf w vs hK hF hwt hin
  | false => exact taken_not o hf w vs hK hF hwt hin he hca

/-! ### may -/
set_option maxRecDepth 100000 in
set_option maxHeartbeats 8000000 in
theorem may_any (c : EvPart) (e : Evn) (w : World) (cs : List Value) (hK : EvK w e cs) (hF : Facts w) (hv : c = .o → e.out.value.wt ≤ 1073741824 ∧ e.out.value.ints ∧ e.out.err.length ≤ 140737488355328 ∧ e.out.cause.length ≤ 140737488355328) :
    Calls Tryz.prog 46 #[.int .i32 c.byte.toNat, .agg cs.toArray] w fun en w' => BoolIs (mayP c e) w en w' := by
  obtain ⟨PA, pc, vs, rfl, hR, hpc, hKv⟩ := hK
  obtain ⟨A, lc, B, ld, rfl, _⟩ := VC.of hKv
  unfold Evn.cells JV.cells at *
  have hB0 := (Below.refl w.heap.size w).alloc (Nat.le_refl _) (.cells #[.int .i64 e.kind, .slice PA e.place.length pc, .int .i64 e.time, .bool e.out.fine, .int .i64 e.out.value.kind, .bool e.out.value.truth, .bool e.out.value.neg, .string e.out.value.digits, .int .i64 e.out.value.exp, .string e.out.value.text, .slice A e.out.value.list.length lc, .slice B e.out.value.fields.length ld, .string ⟨e.out.err.toArray⟩, .string ⟨e.out.cause.toArray⟩, .string ⟨e.machine.toArray⟩, .string ⟨e.input.toArray⟩, .int .i64 e.fuel] 48)
  have hbx := heap_alloc_new w (.cells #[.int .i64 e.kind, .slice PA e.place.length pc, .int .i64 e.time, .bool e.out.fine, .int .i64 e.out.value.kind, .bool e.out.value.truth, .bool e.out.value.neg, .string e.out.value.digits, .int .i64 e.out.value.exp, .string e.out.value.text, .slice A e.out.value.list.length lc, .slice B e.out.value.fields.length ld, .string ⟨e.out.err.toArray⟩, .string ⟨e.out.cause.toArray⟩, .string ⟨e.machine.toArray⟩, .string ⟨e.input.toArray⟩, .int .i64 e.fuel] 48)
  have hc0 := cellAll hbx
  have hsm := size_of_l e.machine
  have hsi := size_of_l e.input
  have hRb := hR.below hB0
  replace hbx := Aside0.mk hbx
  cases c with
  | m =>
    have hP : mayP .m e ↔ e.machine.length ≤ 1048576 := Iff.rfl
    rw [← hsm] at hP
    clear hv hsm hsi hR hRb hKv
    generalize (⟨e.machine.toArray⟩ : ByteArray) = ms at *
    replace hP := Aside0.mk hP
    replace hB0 := Aside0.mk hB0
    go_enter Tryz.func46, Tryz.ntmps46
    go_wp2_with fail
    go_ret
    refine ⟨_, rfl, ?_, hB0.out⟩
    rw [hP.out]
    simp
    try omega
  | i =>
    have hP : mayP .i e ↔ e.input.length ≤ 1048576 := Iff.rfl
    rw [← hsi] at hP
    clear hv hsm hsi hR hRb hKv
    generalize (⟨e.input.toArray⟩ : ByteArray) = ms at *
    replace hP := Aside0.mk hP
    replace hB0 := Aside0.mk hB0
    go_enter Tryz.func46, Tryz.ntmps46
    go_wp2_with fail
    go_ret
    refine ⟨_, rfl, ?_, hB0.out⟩
    rw [hP.out]
    simp
    try omega
  | f =>
    have hP : mayP .f e ↔ (1 ≤ e.fuel ∧ e.fuel ≤ 65536) := Iff.rfl
    clear hv hsm hsi hR hRb hKv
    replace hP := Aside0.mk hP
    replace hB0 := Aside0.mk hB0
    by_cases h1 : 1 ≤ e.fuel
    all_goals go_enter Tryz.func46, Tryz.ntmps46
    all_goals go_wp2_with fail
    all_goals go_ret
    all_goals refine ⟨_, rfl, ?_, hB0.out⟩
    all_goals rw [hP.out]
    all_goals first | (simp [h1]; done) | (simp [h1]; omega)
  | t =>
    have hP : mayP .t e ↔ (0 ≤ e.time ∧ e.time ≤ 1125899906842624) := Iff.rfl
    clear hv hsm hsi hR hRb hKv
    replace hP := Aside0.mk hP
    replace hB0 := Aside0.mk hB0
    by_cases h1 : 0 ≤ e.time
    all_goals go_enter Tryz.func46, Tryz.ntmps46
    all_goals go_wp2_with fail
    all_goals go_ret
    all_goals refine ⟨_, rfl, ?_, hB0.out⟩
    all_goals rw [hP.out]
    all_goals first | (simp [h1]; done) | (simp [h1]; omega)
  | p =>
    have hP : mayP .p e ↔ (e.place.length ≤ 192 ∧ ∀ n ∈ e.place, 0 ≤ n ∧ n ≤ 2147483647) := Iff.rfl
    rw [← far_all] at hP
    clear hv hsm hsi hKv
    replace hP := Aside0.mk hP
    replace hB0 := Aside0.mk hB0
    by_cases h1 : e.place.length ≤ 192
    · have h1I : (e.place.length : Int) ≤ 192 := by omega
      have cH := hasFar _ PA e.place.length pc e.place h1 hRb
      generalize e.place.any farB = fb at *
      go_enter Tryz.func46, Tryz.ntmps46
      go_wp2_with (go_at_call 78; refine cH.mono ?_; rintro en w1 ⟨rfl, rfl⟩)
      go_ret
      refine ⟨!fb, rfl, ?_, hB0.out⟩
      rw [hP.out]
      simp [h1]
    · have h1I : ¬ (e.place.length : Int) ≤ 192 := by omega
      go_enter Tryz.func46, Tryz.ntmps46
      go_wp2_with fail
      go_ret
      refine ⟨false, rfl, ?_, hB0.out⟩
      rw [hP.out]
      simp [h1]
  | o =>
    obtain ⟨h1, h2, h3, h4⟩ := hv rfl
    have cT := taken_any e.out _ _ (kV.K_below hB0 hKv) (hF.below hB0) h1 h2 h3 h4
    unfold BoolIs at cT
    have hP : mayP .o e ↔ takenP e.out := Iff.rfl
    clear hsm hsi hKv hR hRb h1 h2 h3 h4
    replace hP := Aside0.mk hP
    replace hB0 := Aside0.mk hB0
    go_enter Tryz.func46, Tryz.ntmps46
    go_wp2_with (go_at_call 79; refine cT.mono ?_; rintro en w1 ⟨b, rfl, hbi, hb1⟩)
    go_ret
    exact ⟨b, rfl, hbi.trans hP.out.symm, hB0.out.trans (hb1.mono hB0.out.size)⟩
end Go.Proofs.YtkdeleafgailhaaGreatDoor
end
section
set_option linter.unusedVariables false
set_option linter.unusedSimpArgs false
namespace Go.Proofs.YtkdeleafgailhaaGreatDoor
open Go Go.RowKit Go.Proofs.YtkdeleafgailhaaGreatDoorW.PrintWords

/-- The bytes under way, an outcome's box beside them. -/
structure OW (w0 w : World) (v : Value) (xs : List UInt8) (bo : Nat) (box : Array Value) (W : World) : Prop where
  blk : W.heap[bo]? = some (.cells box 46 (0, 0))
  own : BOwn w0.heap.size v xs W
  low : Below w0.heap.size w0 W
  bw : BW w0.heap.size w W
theorem OW.below {w0 w : World} {v : Value} {xs : List UInt8} {bo : Nat} {box : Array Value} {W W' : World} (h : OW w0 w v xs bo box W) (hb : Below W.heap.size W W') : OW w0 w v xs bo box W' :=
  ⟨(hb.block _ (blk_lt h.blk)).trans h.blk, h.own.below hb, h.low.trans (hb.mono h.low.size), h.bw.trans (BW.of hb h.low.size)⟩
theorem OW.write {w0 w : World} {v v' : Value} {xs xs' : List UInt8} {bo : Nat} {box : Array Value} {W W' : World} (h : OW w0 w v xs bo box W) (hB : BW w0.heap.size W W') (hO : BOwn w0.heap.size v' xs' W') : OW w0 w v' xs' bo box W' :=
  ⟨hB.keep _ _ h.blk (fun c fz e => by injection e with _ e; exact absurd e (by decide)), hO, h.low.trans hB.low, h.bw.trans hB⟩
theorem OW.size {w0 w : World} {v : Value} {xs : List UInt8} {bo : Nat} {box : Array Value} {W : World} (h : OW w0 w v xs bo box W) : w0.heap.size ≤ W.heap.size := h.low.size
theorem OW.grow {w0 w : World} {v v' : Value} {xs : List UInt8} {c : UInt8} {bo : Nat} {box : Array Value} {W W' : World} (h : OW w0 w v xs bo box W) (hg : W.grownBy W' v.ownBlock) (hO : W'.ownsRow w0.heap.size 5 1 v' (bint xs ++ [(c.toNat : Int)]).length (nums .u8 (bint xs ++ [(c.toNat : Int)]))) : OW w0 w v' (xs ++ [c]) bo box W' := by
  refine h.write ((BW.refl _ _).own h.own h.size hg) ?_
  have e1 : bint (xs ++ [c]) = bint xs ++ [(c.toNat : Int)] := by rw [bint_app, bint_one]
  unfold BOwn
  rw [e1, ← bint_len, e1]
  exact hO
theorem var_reads (W : World) (c : Int) : ReadsInt (W.alloc (.cells #[.int .u8 c] 5)) .u8 (some ⟨W.heap.size, 0, none⟩) 1 [c] := by
  have hnew := cellAll (heap_alloc_new W (.cells #[.int .u8 c] 5))
  refine ⟨rfl, by decide, fun _ => ⟨_, rfl, fun j hj => ?_⟩⟩
  obtain rfl : j = 0 := by omega
  have ha : (⟨W.heap.size, 0, none⟩ : Addr).add 0 = ⟨W.heap.size, 0, none⟩ := by simp [Addr.add]
  rw [ha, hnew 0]
  rfl
theorem OW.drew {w0 w : World} {v : Value} {xs : List UInt8} {bo : Nat} {box : Array Value} {W : World} (h : OW w0 w v xs bo box W) : OW w0 w v xs bo box W.drew := h.below (below_drew (Below.refl _ _))
theorem OW.al {w0 w : World} {v : Value} {xs : List UInt8} {bo : Nat} {box : Array Value} {W : World} (h : OW w0 w v xs bo box W) (o : Obj) : OW w0 w v xs bo box (W.alloc o) := h.below ((Below.refl _ W).alloc (Nat.le_refl _) o)

set_option maxRecDepth 100000 in
set_option maxHeartbeats 16000000 in
theorem wout_not (w0 : World) (v : Value) (xs : List UInt8) (o : Outc) (hf : o.fine = false) (w : World) (vs : List Value) (hO : BOwn w0.heap.size v xs w) (hlow : Below w0.heap.size w0 w) (hK : kV.K w0 o.value vs) (hx : xs.length ≤ 1073741824) (he : o.err.length + o.cause.length ≤ 1048576) :
    Calls Tryz.prog 49 #[v, .agg (.bool false :: (vs ++ [.string ⟨o.err.toArray⟩, .string ⟨o.cause.toArray⟩])).toArray] w fun e w' => ∃ v1, e = .returned v1 ∧ BOwn w0.heap.size v1 (xs ++ outE o) w' ∧ BW w0.heap.size w w' := by
  have hout : outE o = 0 :: (textE o.err ++ textE o.cause) := by unfold outE; rw [if_neg (by rw [hf]; simp)]
  have hl1 : (textE o.err).length ≤ 1048590 := by have := text_len o.err (by omega); omega
  obtain ⟨A, c, B, d, rfl, _⟩ := VC.of hK
  unfold JV.cells at *
  obtain ⟨box, hbox⟩ : ∃ box : Array Value, #[.bool false, .int .i64 o.value.kind, .bool o.value.truth, .bool o.value.neg, .string o.value.digits, .int .i64 o.value.exp, .string o.value.text, .slice A o.value.list.length c, .slice B o.value.fields.length d, .string ⟨o.err.toArray⟩, .string ⟨o.cause.toArray⟩] = box := ⟨_, rfl⟩
  have hbx := heap_alloc_new w (.cells box 46)
  have hW0 : OW w0 w v xs w.heap.size box (w.alloc (.cells box 46)) := by
    have hb := (Below.refl _ w).alloc (Nat.le_refl _) (.cells box 46)
    exact ⟨hbx, hO.below hb, hlow.trans (hb.mono hlow.size), BW.of hb hlow.size⟩
  have h2 := hW0.drew
  have h3 := h2.al (.cells #[.int .u8 0] 5)
  have hSof : ∀ {W : World} {v' : Value} {xs' : List UInt8}, OW w0 w v' xs' w.heap.size box W → W.cell? ⟨w.heap.size, 9, none⟩ = some (.string ⟨o.err.toArray⟩) ∧ W.cell? ⟨w.heap.size, 10, none⟩ = some (.string ⟨o.cause.toArray⟩) := fun h => by
    have := cellAll h.blk
    subst hbox
    exact ⟨this 9, this 10⟩
  have hc0 := cellAll hbx
  have hS0 := hSof hW0
  have hS2 := hSof h2
  have hS3 := hSof h3
  have hS7 := hSof (hW0.al (.cells #[.int .u8 0] 5)).drew
  have cT := fun (W : World) (v' : Value) (hO : BOwn w0.heap.size v' (xs ++ [0]) W) (hs : w0.heap.size ≤ W.heap.size) => wtext_any w0.heap.size v' (xs ++ [0]) o.err W hO hs (by omega) (by rw [List.length_append]; simp; omega)
  have cU := fun (W : World) (v' : Value) (hO : BOwn w0.heap.size v' (xs ++ [0] ++ textE o.err) W) (hs : w0.heap.size ≤ W.heap.size) => wtext_any w0.heap.size v' (xs ++ [0] ++ textE o.err) o.cause W hO hs (by omega) (by rw [List.length_append, List.length_append]; simp; omega)
  have hvr := var_reads (w.alloc (.cells box 46)).drew 0
  have hsz0 : (w.alloc (.cells box 46)).drew.heap.size = w.heap.size + 1 := by show (w.alloc (.cells box 46)).heap.size = _; simp
  rw [hsz0] at hvr
  clear hsz0
  have hxl : Aside0 (xs.length ≤ 1073741824) := ⟨hx⟩
  have hoo : xs ++ [0] ++ textE o.err ++ textE o.cause = xs ++ outE o := by rw [hout]; simp
  replace hoo := Aside0.mk hoo
  subst hbox
  generalize (⟨o.err.toArray⟩ : ByteArray) = es at *
  generalize (⟨o.cause.toArray⟩ : ByteArray) = ca at *
  replace h3 := Aside0.mk h3
  replace hvr := Aside0.mk hvr
  clear hW0 h2 hbx hK hO hlow hx he hl1 hout
  go_enter Tryz.func49, Tryz.ntmps49
  go_wp2_with fail
  go_region_held3 (fun W => W.cell? ⟨w.heap.size, 9, none⟩ = some (.string es) ∧ W.cell? ⟨w.heap.size, 10, none⟩ = some (.string ca))
    (first | (with_reducible exact hS0) | (with_reducible exact hS2) | (with_reducible exact hS3) | (with_reducible exact hS7) | (with_reducible exact hS4) | (with_reducible exact hS5) | (with_reducible exact hS6))
    (first
      | (refine row_append_step (w0 := w0) w0.heap.size (by rfl) (.tmp 14) (.tmp 15) 49 5 .u8 1 (by rfl) Tryz.underlying49 (by kernel_rfl) (by decide) v (bint xs) [0] _ 1 1 (by rfl) (by rfl) (by rw [bint_len]; exact h3.out.own) hvr.out h3.out.low h3.out.size (by rw [bint_len]; have := hxl.out; omega) ?_; intro v4 w4 hO4 hB4 hg4; have h4 := Aside0.mk (h3.out.grow (c := 0) hg4 hO4); have hS4 := hSof h4.out; clear hO4 hB4 hg4)
      | (go_at_call 47; refine (cU _ _ h5.out.own h5.out.size).mono ?_; rintro e w6 ⟨v6, rfl, hO6, hB6⟩; have h6 := Aside0.mk (h5.out.write hB6 hO6); have hS6 := hSof h6.out)
      | (go_at_call 47; refine (cT _ _ h4.out.own h4.out.size).mono ?_; rintro e w5 ⟨v5, rfl, hO5, hB5⟩; have h5 := Aside0.mk (h4.out.write hB5 hO5); have hS5 := hSof h5.out))
  all_goals (go_wp2_with fail)
  all_goals go_ret
  all_goals exact ⟨v6, by simp [Act.put, go_sem], by rw [← hoo.out]; exact h6.out.own, h6.out.bw⟩
set_option maxRecDepth 100000 in
set_option maxHeartbeats 16000000 in
theorem wout_fine (w0 : World) (v : Value) (xs : List UInt8) (o : Outc) (hf : o.fine = true) (w : World) (vs : List Value) (hO : BOwn w0.heap.size v xs w) (hlow : Below w0.heap.size w0 w) (hK : kV.K w0 o.value vs) (hF : Facts w0) (hwt : o.value.wt ≤ 1073741824) (hin : o.value.ints) (hx : xs.length ≤ 1073741824) (hp : o.value.print.length ≤ 1048576) :
    Calls Tryz.prog 49 #[v, .agg (.bool true :: (vs ++ [.string ⟨o.err.toArray⟩, .string ⟨o.cause.toArray⟩])).toArray] w fun e w' => ∃ v1, e = .returned v1 ∧ BOwn w0.heap.size v1 (xs ++ outE o) w' ∧ BW w0.heap.size w w' := by
  have hout : outE o = 1 :: textE o.value.print := by unfold outE; rw [if_pos hf]
  obtain ⟨A, c, B, d, rfl, _⟩ := VC.of hK
  unfold JV.cells at *
  obtain ⟨box, hbox⟩ : ∃ box : Array Value, #[.bool true, .int .i64 o.value.kind, .bool o.value.truth, .bool o.value.neg, .string o.value.digits, .int .i64 o.value.exp, .string o.value.text, .slice A o.value.list.length c, .slice B o.value.fields.length d, .string ⟨o.err.toArray⟩, .string ⟨o.cause.toArray⟩] = box := ⟨_, rfl⟩
  have hbx := heap_alloc_new w (.cells box 46)
  have hW0 : OW w0 w v xs w.heap.size box (w.alloc (.cells box 46)) := by
    have hb := (Below.refl _ w).alloc (Nat.le_refl _) (.cells box 46)
    exact ⟨hbx, hO.below hb, hlow.trans (hb.mono hlow.size), BW.of hb hlow.size⟩
  have h2 := hW0.drew
  have h3 := h2.al (.cells #[.int .u8 1] 5)
  have hSof : ∀ {W : World} {v' : Value} {xs' : List UInt8}, OW w0 w v' xs' w.heap.size box W → W.cell? ⟨w.heap.size, 1, none⟩ = some (.int .i64 o.value.kind) ∧ W.cell? ⟨w.heap.size, 2, none⟩ = some (.bool o.value.truth) ∧ W.cell? ⟨w.heap.size, 3, none⟩ = some (.bool o.value.neg) ∧ W.cell? ⟨w.heap.size, 4, none⟩ = some (.string o.value.digits) ∧ W.cell? ⟨w.heap.size, 5, none⟩ = some (.int .i64 o.value.exp) ∧ W.cell? ⟨w.heap.size, 6, none⟩ = some (.string o.value.text) ∧ W.cell? ⟨w.heap.size, 7, none⟩ = some (.slice A o.value.list.length c) ∧ W.cell? ⟨w.heap.size, 8, none⟩ = some (.slice B o.value.fields.length d) := fun h => by
    have := cellAll h.blk
    subst hbox
    exact ⟨this 1, this 2, this 3, this 4, this 5, this 6, this 7, this 8⟩
  have hc0 := cellAll hbx
  have hS0 := hSof hW0
  have hS2 := hSof h2
  have hS3 := hSof h3
  have hS7 := hSof (hW0.al (.cells #[.int .u8 1] 5)).drew
  have cR := fun (W : World) (hb : Below w0.heap.size w0 W) => print_any o.value W _ (kV.K_below hb hK) (hF.below hb) hwt hin
  have cT := fun (W : World) (v' : Value) (hO : BOwn w0.heap.size v' (xs ++ [1]) W) (hs : w0.heap.size ≤ W.heap.size) => wtext_any w0.heap.size v' (xs ++ [1]) o.value.print W hO hs (by omega) (by rw [List.length_append]; simp; omega)
  have hvr := var_reads (w.alloc (.cells box 46)).drew 1
  have hsz0 : (w.alloc (.cells box 46)).drew.heap.size = w.heap.size + 1 := by show (w.alloc (.cells box 46)).heap.size = _; simp
  rw [hsz0] at hvr
  clear hsz0
  have hxl : Aside0 (xs.length ≤ 1073741824) := ⟨hx⟩
  have hoo : xs ++ [1] ++ textE o.value.print = xs ++ outE o := by rw [hout]; simp
  replace hoo := Aside0.mk hoo
  subst hbox
  generalize (⟨o.value.print.toArray⟩ : ByteArray) = pr at *
  replace h2 := Aside0.mk h2
  replace h3 := Aside0.mk h3
  replace hvr := Aside0.mk hvr
  clear hW0 hbx hK hO hlow hx hp hout hF hwt hin
  go_enter Tryz.func49, Tryz.ntmps49
  go_wp2_with fail
  go_region_held3 (fun W => W.cell? ⟨w.heap.size, 1, none⟩ = some (.int .i64 o.value.kind) ∧ W.cell? ⟨w.heap.size, 2, none⟩ = some (.bool o.value.truth) ∧ W.cell? ⟨w.heap.size, 3, none⟩ = some (.bool o.value.neg) ∧ W.cell? ⟨w.heap.size, 4, none⟩ = some (.string o.value.digits) ∧ W.cell? ⟨w.heap.size, 5, none⟩ = some (.int .i64 o.value.exp) ∧ W.cell? ⟨w.heap.size, 6, none⟩ = some (.string o.value.text) ∧ W.cell? ⟨w.heap.size, 7, none⟩ = some (.slice A o.value.list.length c) ∧ W.cell? ⟨w.heap.size, 8, none⟩ = some (.slice B o.value.fields.length d))
    (first | (with_reducible exact hS0) | (with_reducible exact hS2) | (with_reducible exact hS3) | (with_reducible exact hS7) | (with_reducible exact hS4) | (with_reducible exact hSP) | (with_reducible exact hSPA) | (with_reducible exact hSQ) | (with_reducible exact hS5) | (with_reducible exact hS6))
    (first
      | (refine row_append_step (w0 := w0) w0.heap.size (by rfl) (.tmp 7) (.tmp 8) 49 5 .u8 1 (by rfl) Tryz.underlying49 (by kernel_rfl) (by decide) v (bint xs) [1] _ 1 1 (by rfl) (by rfl) (by rw [bint_len]; exact hPA.out.own) hvP.out hPA.out.low hPA.out.size (by rw [bint_len]; have := hxl.out; omega) ?_; intro v4 w5 hO4 hB4 hg4; have h5 := Aside0.mk (hPA.out.grow (c := 1) hg4 hO4); have hS5 := hSof h5.out; clear hO4 hB4 hg4)
      | (refine row_append_step (w0 := w0) w0.heap.size (by rfl) (.tmp 7) (.tmp 8) 49 5 .u8 1 (by rfl) Tryz.underlying49 (by kernel_rfl) (by decide) v (bint xs) [1] _ 1 1 (by rfl) (by rfl) (by rw [bint_len]; exact hQQ.out.own) hvQ.out hQQ.out.low hQQ.out.size (by rw [bint_len]; have := hxl.out; omega) ?_; intro v4 w5 hO4 hB4 hg4; have h5 := Aside0.mk (hQQ.out.grow (c := 1) hg4 hO4); have hS5 := hSof h5.out; clear hO4 hB4 hg4)
      | (refine row_append_step (w0 := w0) w0.heap.size (by rfl) (.tmp 7) (.tmp 8) 49 5 .u8 1 (by rfl) Tryz.underlying49 (by kernel_rfl) (by decide) v (bint xs) [1] _ 1 1 (by rfl) (by rfl) (by rw [bint_len]; exact h3.out.own) hvr.out h3.out.low h3.out.size (by rw [bint_len]; have := hxl.out; omega) ?_; intro v4 w4 hO4 hB4 hg4; have h4 := Aside0.mk (h3.out.grow (c := 1) hg4 hO4); have hS4 := hSof h4.out; clear hO4 hB4 hg4)
      | (go_at_call 29; refine (cR _ h4.out.low).mono ?_; rintro e wR ⟨rfl, hbR⟩; have h5 := Aside0.mk (h4.out.below hbR); have hS5 := hSof h5.out; clear hbR)
      | (go_at_call 47; refine (cT _ _ h5.out.own h5.out.size).mono ?_; rintro e w6 ⟨v6, rfl, hO6, hB6⟩; have h6 := Aside0.mk (h5.out.write hB6 hO6); have hS6 := hSof h6.out)
      | (go_at_call 29; refine (cR _ h3.out.low).mono ?_; rintro e wQ ⟨rfl, hbQ⟩; have hQQ := Aside0.mk (h3.out.below hbQ); have hSQ := hSof hQQ.out; have hvQ := Aside0.mk (hvr.out.below hbQ); clear hbQ)
      | (go_at_call 29; refine (cR _ h2.out.low).mono ?_; rintro e wP ⟨rfl, hbP⟩; have hPP := Aside0.mk (h2.out.below hbP); have hSP := hSof hPP.out; have hPA := Aside0.mk (hPP.out.al (.cells #[.int .u8 1] 5)); have hSPA := hSof hPA.out; have hvP := Aside0.mk (var_reads wP 1); clear hbP))
  all_goals (go_wp2_with fail)
  all_goals go_ret
  all_goals exact ⟨v6, by simp [Act.put, go_sem], by rw [← hoo.out]; exact h6.out.own, h6.out.bw⟩
end Go.Proofs.YtkdeleafgailhaaGreatDoor
end
