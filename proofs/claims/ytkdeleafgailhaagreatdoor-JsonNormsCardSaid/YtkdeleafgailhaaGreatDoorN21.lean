/- What reads as data at api.Value is a value: from a row's reading to kV.K. From what a row lists of the package-level variables to what the contracts ask. An argument that is a slice of ints, or an int: what a row's reading says of it. Values whose rows lie in blocks apart from each other: AP W x cs S: S tells the blocks of the rows within. Values apart, made: rows of them under way (RAV, RAF); what an append and an insertion leave of them. All lists within a value in memory, all lists of fields: lsV, fsV; in blocks apart. append of a slice of numbers to a row of the call's own, as a step of a region. -/
import Derived.Test.YtkdeleafgailhaaGreatDoorN20
import Derived.Deep.Strs
import Derived.Deep.Slices
import Derived.ProofKit
import Derived.SizedLaws
import Derived.Test.YtkdeleafgailhaaGreatDoorRows
import Derived.Stop.LaidErr
import Derived.Lib.LaidU8T
import Derived.LaidHandle
import Derived.Lay
import Derived.PinnedBridge
import Derived.OpenShut
import Derived.Test.YtkdeleafgailhaaGreatDoorN9
import Derived.Test.YtkdeleafgailhaaGreatDoorN5
import Derived.WalkKit
section
set_option linter.unusedVariables false
set_option linter.unusedSimpArgs false
namespace Go.Proofs.YtkdeleafgailhaaGreatDoor
open Go Go.RowKit Go.Proofs.YtkdeleafgailhaaGreatDoorW.PrintWords Go.ChangeShapes Go.WideShapes

theorem cellsOf_V : Tryz.prog.cellsOf 27 = 8 := by kernel_rfl
theorem cellsOf_F : Tryz.prog.cellsOf 69 = 9 := by kernel_rfl
theorem cellsOf_D : Tryz.prog.cellsOf 23 = 3 := by kernel_rfl
theorem cellsOf_int : Tryz.prog.cellsOf 3 = 1 := by kernel_rfl
theorem cellsOf_bool : Tryz.prog.cellsOf 4 = 1 := by kernel_rfl
theorem cellsOf_str : Tryz.prog.cellsOf 9 = 1 := by kernel_rfl
theorem cellsOf_lV : Tryz.prog.cellsOf 24 = 1 := by kernel_rfl
theorem cellsOf_lF : Tryz.prog.cellsOf 25 = 1 := by kernel_rfl
instance : Inhabited JV := ⟨JV.nul⟩
instance : Inhabited JF := ⟨JF.nul⟩

section
variable {H : Type} {enc : TypeId × Value → H} {w : World} {spare : Nat → Bool} {held : Bool}
/-- No text, no row of a datum is greater than may be. -/
def Sm (t : TypeId) (d : DataW H) : Prop := ∀ n ∈ d.weights Tryz.prog t, n ≤ reachBytes
theorem weights_all {e : TypeId} : ∀ {l : List (DataW H)} {d : DataW H}, d ∈ l → ∀ n ∈ d.weights Tryz.prog e, n ∈ DataW.weightsAll Tryz.prog e l
  | x :: l, d, h, n, hn => by
    rw [DataW.weightsAll, List.mem_append]
    rcases List.mem_cons.1 h with rfl | h
    · exact .inl hn
    · exact .inr (weights_all h n hn)
theorem Sm.str {s : ByteArray} {t : TypeId} (h : Sm t (.lit (.string s.data.toList) : DataW H)) : s.size ≤ reachBytes := by
  have := h s.data.toList.length (by simp [DataW.weights])
  rw [Array.length_toList] at this
  exact this
theorem Sm.part {t : TypeId} {fs : Array Field} {ps : List (DataW H)} (hu : Tryz.prog.underlying t = some (.struct fs)) (h : Sm t (.agg ps)) {j : Nat} {f : Field} {d : DataW H} (hf : fs[j]? = some f) (hd : ps[j]? = some d) : Sm f.type d := fun n hn => by
  refine h n ?_
  rw [DataW.weights, hu]
  exact DataW.weights_mem_each (by simp [hf]) hd n hn
theorem trod_row {α : Type} [Inhabited α] {t e : TypeId} {sz fuel B : Nat} {cs : List Value} {x : DataW H × List MemPlace} (R : α → List Value → Prop) (G : α → Prop) (ht : Tryz.prog.underlying t = some (.slice e)) (hc : Tryz.prog.cellsOf e = sz) (hB : Tryz.prog.bytesOf e = B) (hB0 : 0 < B)
    (h : DataW.trod enc Tryz.prog w 0 spare held fuel t cs = some x) (hsm : Sm t x.1) (ih : ∀ n, n < fuel → ∀ cs y, DataW.trod enc Tryz.prog w 0 spare held n e cs = some y → Sm e y.1 → ∃ v, R v cs ∧ G v) :
    ∃ A len c xs, cs = [.slice A len c] ∧ len ≤ c ∧ len ≤ 140737488355328 ∧ ReadsRow R sz w A len xs ∧ xs.length = len ∧ ∀ y ∈ xs, G y := by
  rcases DataW.trod_slice ht h with ⟨rfl, _⟩ | ⟨a, len, cap, elems, rest, n, rfl, rfl, rfl, hb, hl, hm, hlen, hel, _, _⟩
  · exact ⟨none, 0, 0, [], rfl, Nat.le_refl _, Nat.zero_le _, ⟨rfl, by decide, fun h => absurd h (by decide)⟩, rfl, fun y h => nomatch h⟩
  · have hlb : len ≤ reachBytes := by
      have h1 := hsm (((elems.map (·.1)).length + (rest.map (·.1)).length) * B) (by rw [← hB]; simp [DataW.weights, ht])
      have h2 : len ≤ (elems.map (·.1)).length + (rest.map (·.1)).length := by simp; omega
      exact Nat.le_trans h2 (Nat.le_trans (Nat.le_mul_of_pos_right _ hB0) h1)
    have hmx : reachBytes ≤ 140737488355328 := by decide
    have key : ∀ i, i < len → ∃ v, G v ∧ ∃ c, c.length = sz ∧ R v c ∧ ∀ j u, c[j]? = some u → w.cell? (a.add (i * sz + j)) = some u := by
      intro i hi
      have h1 := hel i hi
      rw [List.getElem?_eq_getElem (by omega)] at h1
      obtain ⟨c, hc1, hc2⟩ := Option.bind_eq_some_iff.1 h1
      obtain ⟨v, hv, hg⟩ := ih n (by omega) _ _ hc2 (fun m hmm => hsm m (by
        rw [DataW.weights, ht]
        refine List.mem_cons_of_mem _ (List.mem_append_left _ (weights_all ?_ m hmm))
        exact List.mem_map.2 ⟨_, List.getElem_mem _, rfl⟩))
      obtain ⟨_, hcl, hcell⟩ := World.cells?_some hc1
      rw [hc] at hcl hcell
      refine ⟨v, hg, c, hcl, hv, fun j u hj => ?_⟩
      have := hcell j (by have := (List.getElem?_eq_some_iff.1 hj).1; omega)
      rw [Go.Deep.add_add, hj] at this
      exact this
    obtain ⟨V, hV⟩ := Go.Deep.choose_lt key
    refine ⟨some a, len, cap, (List.range len).map V, rfl, hl, by omega, ⟨by simp, by omega, fun _ => ⟨a, rfl, fun j p hj => ?_⟩⟩, by simp, fun y hy => ?_⟩
    · have hjl : j < len := by simpa using (List.getElem?_eq_some_iff.1 hj).1
      have : V j = p := by simpa [hjl] using hj
      subst this
      exact (hV j hjl).2
    · obtain ⟨i, hi, rfl⟩ := List.mem_map.1 hy
      exact (hV i (List.mem_range.1 hi)).1
theorem fitsL_of : ∀ {l : List JV}, (∀ y ∈ l, y.fits) → JV.fitsL l
  | [], _ => by rw [JV.fitsL]; trivial
  | x :: l, h => by rw [JV.fitsL]; exact ⟨h x (.head _), fitsL_of (fun y hy => h y (.tail _ hy))⟩
theorem fitsF_of : ∀ {l : List JF}, (∀ y ∈ l, y.name.size ≤ 140737488355328 ∧ y.value.fits) → JV.fitsF l
  | [], _ => by rw [JV.fitsF]; trivial
  | .mk nm v :: l, h => by rw [JV.fitsF]; exact ⟨(h _ (.head _)).1, (h _ (.head _)).2, fitsF_of (fun y hy => h y (.tail _ hy))⟩
theorem wf64 {k : Int} (h : (Lit.int .i64 k).wf = true) : -9223372036854775808 ≤ k ∧ k ≤ 9223372036854775807 := by
  simpa [Lit.wf, IntKind.min, IntKind.max, IntKind.signed, IntKind.bits] using h
theorem list8 {α : Type} {l : List α} (h : l.length = 8) : ∃ c0 c1 c2 c3 c4 c5 c6 c7, l = [c0, c1, c2, c3, c4, c5, c6, c7] := by
  match l, h with
  | [c0, c1, c2, c3, c4, c5, c6, c7], _ => exact ⟨c0, c1, c2, c3, c4, c5, c6, c7, rfl⟩
theorem list9 {α : Type} {l : List α} (h : l.length = 9) : ∃ c0 r, l = c0 :: r ∧ r.length = 8 := by
  match l, h with
  | c0 :: r, h => exact ⟨c0, r, rfl, by simpa using h⟩
theorem list3 {α : Type} {l : List α} (h : l.length = 3) : ∃ c0 c1 c2, l = [c0, c1, c2] := by
  match l, h with
  | [c0, c1, c2], _ => exact ⟨c0, c1, c2, rfl⟩
theorem list2 {α : Type} {l : List α} (h : l.length = 2) : ∃ c0 c1, l = [c0, c1] := by
  match l, h with
  | [c0, c1], _ => exact ⟨c0, c1, rfl⟩
theorem list6 {α : Type} {l : List α} (h : l.length = 6) : ∃ c0 c1 c2 c3 c4 c5, l = [c0, c1, c2, c3, c4, c5] := by
  match l, h with
  | [c0, c1, c2, c3, c4, c5], _ => exact ⟨c0, c1, c2, c3, c4, c5, rfl⟩
theorem bytesOf_V : Tryz.prog.bytesOf 27 = 112 := by kernel_rfl
theorem bytesOf_F : Tryz.prog.bytesOf 69 = 128 := by kernel_rfl
set_option maxRecDepth 100000 in
theorem trod_V : ∀ (fuel : Nat) (cs : List Value) (x : DataW H × List MemPlace), DataW.trod enc Tryz.prog w 0 spare held fuel 27 cs = some x → Sm 27 x.1 → ∃ v : JV, kV.K w v cs ∧ v.fits := by
  intro fuel
  induction fuel using Nat.strongRecOn with
  | ind fuel ih =>
    intro cs x h hsm
    have hmx : reachBytes ≤ 140737488355328 := by decide
    obtain ⟨ys, n, rfl, rfl, hlen, hys, hf⟩ := DataW.trod_struct Tryz.underlying27 h
    obtain ⟨c0, c1, c2, c3, c4, c5, c6, c7, rfl⟩ := list8 (hlen.trans cellsOf_V)
    obtain ⟨y0, y1, y2, y3, y4, y5, rfl⟩ := list6 hys
    have h0 := hf 0 _ rfl
    have h1 := hf 1 _ rfl
    have h2 := hf 2 _ rfl
    have h3 := hf 3 _ rfl
    have h4 := hf 4 _ rfl
    have h5 := hf 5 _ rfl
    simp [cellsOf_int, cellsOf_bool, cellsOf_D, cellsOf_str, cellsOf_lV, cellsOf_lF] at h0 h1 h2 h3 h4 h5
    have s2 := Sm.part Tryz.underlying27 hsm (j := 2) rfl rfl
    have s3 := Sm.part Tryz.underlying27 hsm (j := 3) rfl rfl
    have s4 := Sm.part Tryz.underlying27 hsm (j := 4) rfl rfl
    have s5 := Sm.part Tryz.underlying27 hsm (j := 5) rfl rfl
    obtain ⟨k, e0, _, hk⟩ := DataW.trod_int Tryz.underlying3 h0
    obtain ⟨t, e1, _⟩ := DataW.trod_bool Tryz.underlying4 h1
    obtain ⟨zs, m, _, rfl, _, hzs, hg⟩ := DataW.trod_struct Tryz.underlying23 h2
    obtain ⟨z0, z1, z2, rfl⟩ : ∃ z0 z1 z2, zs = [z0, z1, z2] := by
      exact list3 hzs
    have g0 := hg 0 _ rfl
    have g1 := hg 1 _ rfl
    have g2 := hg 2 _ rfl
    simp [cellsOf_int, cellsOf_bool, cellsOf_str] at g0 g1 g2
    have s21 := Sm.part Tryz.underlying23 s2 (j := 1) rfl rfl
    obtain ⟨ng, e2, _⟩ := DataW.trod_bool Tryz.underlying4 g0
    obtain ⟨ds, e3, rfl, hds⟩ := DataW.trod_string Tryz.underlying9 g1
    obtain ⟨ex, e4, _, hex⟩ := DataW.trod_int Tryz.underlying3 g2
    obtain ⟨tx, e5, rfl, htx⟩ := DataW.trod_string Tryz.underlying9 h3
    have z1 := Sm.str s21
    have z3 := Sm.str s3
    obtain ⟨A, ll, cl, xs, e6, hlc, hlm, hrl, hxl, hxs⟩ := trod_row (kV.K w) JV.fits Tryz.underlying24 cellsOf_V bytesOf_V (by decide) h4 s4 (fun m hm cs y hy hs => ih m (by omega) cs y hy hs)
    obtain ⟨B, lf, cf, fs, e7, hfc, hfm, hrf, hfl, hfs⟩ := trod_row (kF.K w) (fun f : JF => f.name.size ≤ 140737488355328 ∧ f.value.fits) Tryz.underlying25 cellsOf_F bytesOf_F (by decide) h5 s5 (fun m hm cs y hy hs => by
      obtain ⟨us, p, rfl, rfl, hl9, hus, hg⟩ := DataW.trod_struct Tryz.underlying69 hy
      obtain ⟨q0, r, rfl, hr8⟩ := list9 (hl9.trans cellsOf_F)
      obtain ⟨u0, u1, rfl⟩ : ∃ u0 u1, us = [u0, u1] := by
        exact list2 hus
      have p0 := hg 0 _ rfl
      have p1 := hg 1 _ rfl
      simp [cellsOf_str, cellsOf_V] at p0 p1
      rw [List.take_of_length_le (by omega)] at p1
      have t0 := Sm.part Tryz.underlying69 hs (j := 0) rfl rfl
      have t1 := Sm.part Tryz.underlying69 hs (j := 1) rfl rfl
      obtain ⟨nm, e8, rfl, hnm⟩ := DataW.trod_string Tryz.underlying9 p0
      have hnz := Sm.str t0
      obtain ⟨v, hv, hvf⟩ := ih p (by omega) _ _ p1 t1
      injection e8 with e8
      subst e8
      exact ⟨.mk nm v, ⟨[.string nm], r, rfl, rfl, hv⟩, by show nm.size ≤ _; omega, hvf⟩)
    injection e0 with e0
    injection e1 with e1
    injection e2 with e2
    injection e3 with e3
    injection e4 with e4
    injection e5 with e5
    injection e6 with e6
    injection e7 with e7
    subst e0 e1 e2 e3 e4 e5 e6 e7 hxl hfl
    refine ⟨.mk k t ng ds ex tx xs fs, kV_mkK (x := .mk k t ng ds ex tx xs fs) hlc hrl hfc hrf, ?_⟩
    rw [JV.fits]
    exact ⟨wf64 hk, wf64 hex, by omega, by omega, hlm, hfm, fitsL_of hxs, fitsF_of hfs⟩
theorem trod_lt_V {v : Value} {d : DataW H} {ps : List MemPlace} (h : DataW.Trod enc Tryz.prog w 0 spare held 27 v d ps) : ∀ x ∈ ps, x.block < w.heap.size := by
  obtain ⟨m, hm⟩ := h
  exact DataW.trod_lt m _ _ _ hm
set_option maxRecDepth 100000 in
/-- An argument of type api.Value. -/
theorem arg_V {r : Reach} {b0 : Nat} {v : Value} {d : DataW H} {ps : List MemPlace} (hv : Value.okWide Tryz.prog w r b0 27 v) (h : DataW.Trod enc Tryz.prog w 0 spare held 27 v d ps) (hs : Sm 27 d) :
    ∃ (cs : List Value) (x : JV), v = .agg cs.toArray ∧ kV.K w x cs ∧ x.fits := by
  obtain ⟨cs, rfl, hsz⟩ := okWide_struct Tryz.underlying27 hv
  obtain ⟨fuel, hf⟩ := h
  obtain ⟨x, hx, hfx⟩ := trod_V fuel _ _ hf hs
  exact ⟨_, x, by simp [Value.cells], hx, hfx⟩
end
end Go.Proofs.YtkdeleafgailhaaGreatDoor
end
section
set_option linter.unusedVariables false
set_option linter.unusedSimpArgs false
namespace Go.Proofs.YtkdeleafgailhaaGreatDoor
open Go Go.RowKit Go.Shelf Go.Lib

theorem star_es : "*errors.errorString" = "*" ++ "errors.errorString" := by decide +kernel
theorem row_es (u : TypeId) (h : Tryz.prog.typeName? 3 u = some "*errors.errorString") : u = 228 :=
  typeName_ptr_named (nm := "errors.errorString") (by rw [← star_es]; kernel_rfl) (by kernel_rfl) (by decide) u (by rw [← star_es]; exact h)
theorem sentinel_mem {W : World} {n : String} {text : List UInt8} {g : Nat} (hg : Tryz.prog.globalNamed n = some g) (ht : (Tryz.prog.globals[g]?).map (·.type) = some 51) : ∀ {l : List (String × DataW Unit)}, laidMet Tryz.prog l W → (n, DataW.iface "*errors.errorString" (.ptr (.agg [.lit (.string text)]))) ∈ l → ∃ a, W.var? Tryz.prog n = some #[ev a]
  | x :: r, h, hm => by
    rcases List.mem_cons.1 hm with rfl | hm
    · obtain ⟨a, s, hv, _⟩ := laid_sentinel h hg ht Tryz.underlying51 row_es Tryz.underlying228 Tryz.underlying230 rfl rfl Tryz.underlying9 (by kernel_rfl) cellsOf_str
      exact ⟨a, hv⟩
    · exact sentinel_mem hg ht h.tail hm
theorem u8x : U8Extra Tryz.prog Tryz.lays196_ren := ⟨by kernel_rfl, by kernel_rfl, by kernel_rfl, by kernel_rfl, by kernel_rfl, by kernel_rfl, by kernel_rfl⟩
theorem oneRowError : ((List.range Tryz.prog.types.size).filter fun t => Tryz.prog.rowNamed t [101, 114, 114, 111, 114]) = [51] := by kernel_rfl
theorem rtypeRow : (Tryz.prog.cutTypes.find? (·.1 == "internal/reflectlite.rtype")).map (·.2) = some 167 := by kernel_rfl
theorem handle_mem {W : World} {hs : List (String × DataW Unit)} (hh : handlesMet Tryz.prog hs W) (hm : ("errors.errorType", Rows.laid_errors_errorType) ∈ hs) : W.cell? ⟨4, 0, none⟩ = some (.iface 167 (.agg #[typeHandle Tryz.prog 51])) := by
  obtain ⟨name, u, ty, e1, e2, e3, e4, e5⟩ := hh _ hm
  have en : name = [101, 114, 114, 111, 114] := (Option.some.inj e1).symm
  subst en
  obtain rfl := Option.some.inj (rtypeRow.symm.trans e2)
  have hm2 : ty ∈ (List.range Tryz.prog.types.size).filter fun t => Tryz.prog.rowNamed t [101, 114, 114, 111, 114] := List.mem_filter.2 ⟨List.mem_range.2 e3, e4⟩
  rw [oneRowError] at hm2
  obtain rfl := List.mem_singleton.1 hm2
  simpa using World.var?_cell (show Tryz.prog.globalNamed "errors.errorType" = some 4 by kernel_rfl) e5 0
theorem accept_eq : (Rows.laid_unicode_utf8_acceptRanges : DataW Unit) = acceptData := by kernel_rfl
theorem pow_eq : (Rows.laid_internal_strconv_uint64pow10 : DataW Unit) = tabData .u64 pow10Tab := by kernel_rfl
theorem pow_of {W : World} (h : VarReads Tryz.prog W "internal/strconv.uint64pow10" (tabData .u64 pow10Tab)) : TabIs Tryz.prog W "internal/strconv.uint64pow10" .u64 pow10Tab := by
  obtain ⟨g', t', cs, fuel, p, hg', ht', hvar, hd⟩ := h
  obtain rfl := Option.some.inj ((show Tryz.prog.globalNamed "internal/strconv.uint64pow10" = some 13 by kernel_rfl).symm.trans hg')
  obtain rfl := Option.some.inj ((show (Tryz.prog.globals[13]?).map (·.type) = some 213 by kernel_rfl).symm.trans ht')
  unfold TabIs
  rw [hvar, ← cells_of_tab Tryz.underlying213 Tryz.underlying189 (by kernel_rfl) (by kernel_rfl) hd]
theorem penv_of {l hs : List (String × DataW Unit)} {W : World} (hd : laidMet Tryz.prog l W) (hh : handlesMet Tryz.prog hs W) (mh : ("errors.errorType", Rows.laid_errors_errorType) ∈ hs)
    (m1 : ("voyage/api.ErrDue", Rows.laid_voyage_api_ErrDue) ∈ l) (m2 : ("voyage/api.ErrLong", Rows.laid_voyage_api_ErrLong) ∈ l) (m3 : ("voyage/api.ErrDeep", Rows.laid_voyage_api_ErrDeep) ∈ l) (m4 : ("voyage/api.ErrTwice", Rows.laid_voyage_api_ErrTwice) ∈ l)
    (m5 : ("voyage/api.ErrText", Rows.laid_voyage_api_ErrText) ∈ l) (m6 : ("voyage/api.ErrNumber", Rows.laid_voyage_api_ErrNumber) ∈ l) (m7 : ("voyage/api.ErrExponent", Rows.laid_voyage_api_ErrExponent) ∈ l) (m8 : ("strconv.ErrSyntax", Rows.laid_strconv_ErrSyntax) ∈ l)
    (m9 : ("unicode/utf8.first", Rows.laid_unicode_utf8_first) ∈ l) (m10 : ("unicode/utf8.acceptRanges", Rows.laid_unicode_utf8_acceptRanges) ∈ l) (m11 : ("internal/strconv.uint64pow10", Rows.laid_internal_strconv_uint64pow10) ∈ l) : ∃ E, PEnv E W := by
  obtain ⟨a1, h1⟩ := sentinel_mem (g := 1) (by kernel_rfl) (by kernel_rfl) hd m1
  obtain ⟨a2, h2⟩ := sentinel_mem (g := 2) (by kernel_rfl) (by kernel_rfl) hd m2
  obtain ⟨a3, h3⟩ := sentinel_mem (g := 7) (by kernel_rfl) (by kernel_rfl) hd m3
  obtain ⟨a4, h4⟩ := sentinel_mem (g := 8) (by kernel_rfl) (by kernel_rfl) hd m4
  obtain ⟨a5, h5⟩ := sentinel_mem (g := 9) (by kernel_rfl) (by kernel_rfl) hd m5
  obtain ⟨a6, h6⟩ := sentinel_mem (g := 11) (by kernel_rfl) (by kernel_rfl) hd m6
  obtain ⟨a7, h7⟩ := sentinel_mem (g := 12) (by kernel_rfl) (by kernel_rfl) hd m7
  obtain ⟨a8, h8⟩ := sentinel_mem (g := 14) (by kernel_rfl) (by kernel_rfl) hd m8
  have r9 : VarReads Tryz.prog W "unicode/utf8.first" firstData := Pinned.utf8First_eq ▸ laidMet.reads hd m9
  have r10 : VarReads Tryz.prog W "unicode/utf8.acceptRanges" acceptData := accept_eq ▸ laidMet.reads hd m10
  have r11 : VarReads Tryz.prog W "internal/strconv.uint64pow10" (tabData .u64 pow10Tab) := pow_eq ▸ laidMet.reads hd m11
  exact ⟨⟨a1, a2, a3, a4, a5, a6, a7⟩, ⟨⟨h1, h2, h3, h4, h5, h6, h7⟩, ⟨utf8Tabs_of_readsT (U8Types.of196 Tryz.lays196) u8x r9 r10, pow_of r11⟩, ⟨_, _, (var_block (by kernel_rfl) h8).2⟩, handle_mem hh mh⟩⟩
end Go.Proofs.YtkdeleafgailhaaGreatDoor
end
section
set_option linter.unusedVariables false
set_option linter.unusedSimpArgs false
namespace Go.Proofs.YtkdeleafgailhaaGreatDoor
open Go Go.RowKit Go.Proofs.YtkdeleafgailhaaGreatDoorW.PrintWords Go.ChangeShapes Go.WideShapes

section
variable {H : Type} {enc : TypeId × Value → H} {w : World} {spare : Nat → Bool} {held : Bool}
end
end Go.Proofs.YtkdeleafgailhaaGreatDoor
end
section
set_option linter.unusedVariables false
set_option linter.unusedSimpArgs false
namespace Go.Proofs.YtkdeleafgailhaaGreatDoor
open Go Go.RowKit Go.Proofs.YtkdeleafgailhaaGreatDoorW.PrintWords

/-- A row's own block. -/
def RowBlk (W : World) (q : TypeId) (sz : Nat) (v : Value) (n g : Nat) (cur : Array Value) : Prop := ∃ cap, v = .slice (some ⟨g, 0, none⟩) n cap ∧ W.heap[g]? = some (.cells cur q (0, 0)) ∧ n ≤ cap ∧ cap ≤ maxLen ∧ cur.size = cap * sz
mutual
def AP (W : World) : JV → List Value → List Nat → Prop
  | .mk k t n d e s l f, cs, S => ∃ vl vf Sl Sf, cs = (JV.mk k t n d e s l f).cells vl vf ∧
      ((vl = .slice none 0 0 ∧ l = [] ∧ Sl = []) ∨ ∃ g cur Se, RowBlk W 27 8 vl l.length g cur ∧ APL W l cur.toList Se ∧ Sl = g :: Se) ∧
      ((vf = .slice none 0 0 ∧ f = [] ∧ Sf = []) ∨ ∃ g cur Se, RowBlk W 69 9 vf f.length g cur ∧ APF W f cur.toList Se ∧ Sf = g :: Se) ∧ S = Sl ++ Sf
def APL (W : World) : List JV → List Value → List Nat → Prop
  | [], _, S => S = []
  | x :: xs, cs, S => ∃ S1 S2, AP W x (cs.take 8) S1 ∧ APL W xs (cs.drop 8) S2 ∧ S = S1 ++ S2
def APF (W : World) : List JF → List Value → List Nat → Prop
  | [], _, S => S = []
  | .mk nm v :: fs, cs, S => ∃ S1 S2, AP W v ((cs.drop 1).take 8) S1 ∧ APF W fs (cs.drop 9) S2 ∧ S = S1 ++ S2
end
theorem RowBlk.move {W W' : World} {q : TypeId} {sz : Nat} {v : Value} {n g : Nat} {cur : Array Value} (h : RowBlk W q sz v n g cur) (hm : W'.heap[g]? = W.heap[g]?) : RowBlk W' q sz v n g cur := by
  obtain ⟨cap, h1, h2, h3⟩ := h
  exact ⟨cap, h1, hm.trans h2, h3⟩
mutual
/-- Only the blocks in S count. -/
theorem AP_move {W W' : World} : ∀ (x : JV) {cs : List Value} {S : List Nat}, AP W x cs S → (∀ k ∈ S, W'.heap[k]? = W.heap[k]?) → AP W' x cs S
  | .mk k t n d e s l f, cs, S, h, hm => by
    rw [AP] at h ⊢
    obtain ⟨vl, vf, Sl, Sf, h1, h2, h3, rfl⟩ := h
    refine ⟨vl, vf, Sl, Sf, h1, ?_, ?_, rfl⟩
    · rcases h2 with h2 | ⟨g, cur, Se, h4, h5, rfl⟩
      · exact .inl h2
      · exact .inr ⟨g, cur, Se, h4.move (hm g (by simp)), APL_move l h5 (fun k hk => hm k (by simp [hk])), rfl⟩
    · rcases h3 with h3 | ⟨g, cur, Se, h4, h5, rfl⟩
      · exact .inl h3
      · exact .inr ⟨g, cur, Se, h4.move (hm g (by simp)), APF_move f h5 (fun k hk => hm k (by simp [hk])), rfl⟩
theorem APL_move {W W' : World} : ∀ (l : List JV) {cs : List Value} {S : List Nat}, APL W l cs S → (∀ k ∈ S, W'.heap[k]? = W.heap[k]?) → APL W' l cs S
  | [], cs, S, h, _ => by rw [APL] at h ⊢; exact h
  | x :: xs, cs, S, h, hm => by
    rw [APL] at h ⊢
    obtain ⟨S1, S2, h1, h2, rfl⟩ := h
    exact ⟨S1, S2, AP_move x h1 (fun k hk => hm k (List.mem_append_left _ hk)), APL_move xs h2 (fun k hk => hm k (List.mem_append_right _ hk)), rfl⟩
theorem APF_move {W W' : World} : ∀ (f : List JF) {cs : List Value} {S : List Nat}, APF W f cs S → (∀ k ∈ S, W'.heap[k]? = W.heap[k]?) → APF W' f cs S
  | [], cs, S, h, _ => by rw [APF] at h ⊢; exact h
  | .mk nm v :: fs, cs, S, h, hm => by
    rw [APF] at h ⊢
    obtain ⟨S1, S2, h1, h2, rfl⟩ := h
    exact ⟨S1, S2, AP_move v h1 (fun k hk => hm k (List.mem_append_left _ hk)), APF_move fs h2 (fun k hk => hm k (List.mem_append_right _ hk)), rfl⟩
end
/-- Only the elements' own cells count. -/
theorem APL_cut {W : World} : ∀ (l : List JV) {cs cs' : List Value} {S : List Nat}, APL W l cs S → cs.take (l.length * 8) = cs'.take (l.length * 8) → APL W l cs' S
  | [], cs, cs', S, h, _ => by rw [APL] at h ⊢; exact h
  | x :: xs, cs, cs', S, h, he => by
    rw [APL] at h ⊢
    rw [List.length_cons] at he
    obtain ⟨S1, S2, h1, h2, rfl⟩ := h
    have e8 : cs.take 8 = cs'.take 8 := by
      have := congrArg (List.take 8) he
      rw [List.take_take, List.take_take, Nat.min_eq_left (by omega)] at this
      exact this
    have ed : (cs.drop 8).take (xs.length * 8) = (cs'.drop 8).take (xs.length * 8) := by
      have := congrArg (List.drop 8) he
      rw [List.drop_take, List.drop_take, show (xs.length + 1) * 8 - 8 = xs.length * 8 by omega] at this
      exact this
    exact ⟨S1, S2, e8 ▸ h1, APL_cut xs h2 ed, rfl⟩
theorem APF_cut {W : World} : ∀ (l : List JF) {cs cs' : List Value} {S : List Nat}, APF W l cs S → cs.take (l.length * 9) = cs'.take (l.length * 9) → APF W l cs' S
  | [], cs, cs', S, h, _ => by rw [APF] at h ⊢; exact h
  | .mk nm v :: xs, cs, cs', S, h, he => by
    rw [APF] at h ⊢
    rw [List.length_cons] at he
    obtain ⟨S1, S2, h1, h2, rfl⟩ := h
    have e8 : (cs.drop 1).take 8 = (cs'.drop 1).take 8 := by
      have := congrArg (fun q => (q.take 9).drop 1) he
      rw [List.take_take, List.take_take, Nat.min_eq_left (by omega), List.drop_take, List.drop_take] at this
      exact this
    have ed : (cs.drop 9).take (xs.length * 9) = (cs'.drop 9).take (xs.length * 9) := by
      have := congrArg (List.drop 9) he
      rw [List.drop_take, List.drop_take, show (xs.length + 1) * 9 - 9 = xs.length * 9 by omega] at this
      exact this
    exact ⟨S1, S2, e8 ▸ h1, APF_cut xs h2 ed, rfl⟩
theorem APL_app {W : World} : ∀ (l : List JV) {cs cs2 : List Value} {S S2 : List Nat} {l2 : List JV}, cs.length = l.length * 8 → APL W l cs S → APL W l2 cs2 S2 → APL W (l ++ l2) (cs ++ cs2) (S ++ S2)
  | [], cs, cs2, S, S2, l2, hl, h, h2 => by
    rw [APL] at h
    subst h
    have : cs = [] := List.eq_nil_of_length_eq_zero (by simpa using hl)
    subst this
    exact h2
  | x :: xs, cs, cs2, S, S2, l2, hl, h, h2 => by
    rw [APL] at h
    rw [List.length_cons] at hl
    obtain ⟨S1, S3, h1, h3, rfl⟩ := h
    rw [List.cons_append, APL]
    refine ⟨S1, S3 ++ S2, ?_, ?_, by rw [List.append_assoc]⟩
    · rw [List.take_append_of_le_length (by omega)]; exact h1
    · rw [List.drop_append_of_le_length (by omega)]
      exact APL_app xs (by rw [List.length_drop]; omega) h3 h2
end Go.Proofs.YtkdeleafgailhaaGreatDoor
end
section
set_option linter.unusedVariables false
set_option linter.unusedSimpArgs false
namespace Go.Proofs.YtkdeleafgailhaaGreatDoor
open Go Go.RowKit Go.Proofs.YtkdeleafgailhaaGreatDoorW.PrintWords

/-- The value's rows lie above base, in blocks apart. -/
def Apt (W : World) (base : Nat) (x : JV) (cs : List Value) (S : List Nat) : Prop := AP W x cs S ∧ S.Nodup ∧ ∀ k ∈ S, base ≤ k ∧ k < W.heap.size
/-- A row of values under way. -/
def RAV (W : World) (base : Nat) (v : Value) (xs : List JV) (Se : List Nat) : Prop := ∃ inner, W.ownsRow base 27 8 v xs.length inner ∧ Reps (kV.M W base (fun k => True ∧ some k ≠ v.ownBlock)) 8 xs inner ∧ APL W xs inner Se ∧ Se.Nodup ∧ ∀ k ∈ Se, base ≤ k ∧ k < W.heap.size ∧ some k ≠ v.ownBlock
/-- A row of fields under way. -/
def RAF (W : World) (base : Nat) (v : Value) (xs : List JF) (Se : List Nat) : Prop := ∃ inner, W.ownsRow base 69 9 v xs.length inner ∧ Reps (kF.M W base (fun k => True ∧ some k ≠ v.ownBlock)) 9 xs inner ∧ APF W xs inner Se ∧ Se.Nodup ∧ ∀ k ∈ Se, base ≤ k ∧ k < W.heap.size ∧ some k ≠ v.ownBlock
theorem RAV.R {W : World} {base : Nat} {v : Value} {xs : List JV} {Se : List Nat} (h : RAV W base v xs Se) : kV.R 27 W base (fun _ => True) v xs := by
  obtain ⟨inner, h1, h2, _⟩ := h
  exact ⟨fun _ _ => trivial, inner, h1, h2⟩
theorem RAF.R {W : World} {base : Nat} {v : Value} {xs : List JF} {Se : List Nat} (h : RAF W base v xs Se) : kF.R 69 W base (fun _ => True) v xs := by
  obtain ⟨inner, h1, h2, _⟩ := h
  exact ⟨fun _ _ => trivial, inner, h1, h2⟩
theorem RAV_nil (W : World) (base : Nat) : RAV W base (.slice none 0 0) [] [] := ⟨[], own_nil _ _ _ _, Reps.none _ _, by rw [APL], List.nodup_nil, fun k hk => nomatch hk⟩
theorem RAF_nil (W : World) (base : Nat) : RAF W base (.slice none 0 0) [] [] := ⟨[], own_nil _ _ _ _, Reps.none _ _, by rw [APF], List.nodup_nil, fun k hk => nomatch hk⟩
theorem ownsRow_move {W W' : World} {base e sz : Nat} {v : Value} {n : Nat} {inner : List Value} (h : W.ownsRow base e sz v n inner) (hm : ∀ k, base ≤ k → k < W.heap.size → W'.heap[k]? = W.heap[k]?) : W'.ownsRow base e sz v n inner := by
  refine ⟨h.1, ?_⟩
  rcases h.2 with h2 | ⟨g, c, cur, rfl, hgb, hg, h3⟩
  · exact .inl h2
  · exact .inr ⟨g, c, cur, rfl, hgb, (hm g hgb (blk_lt hg)).trans hg, h3⟩
theorem RAV_move {W W' : World} {base : Nat} {v : Value} {xs : List JV} {Se : List Nat} (h : RAV W base v xs Se) (hm : ∀ k, base ≤ k → k < W.heap.size → W'.heap[k]? = W.heap[k]?) (hs : W.heap.size ≤ W'.heap.size) : RAV W' base v xs Se := by
  obtain ⟨inner, h1, h2, h3, h4, h5⟩ := h
  exact ⟨inner, ownsRow_move h1 hm, h2.imp_ (fun _ _ hq => Kd.M_mono kV (fun k hk => hk.1) (Kd.M_move kV (w1 := W') (fun k hk => hm k hk.2.1 hk.2.2.1) (Kd.M_bound kV hq))), APL_move xs h3 (fun k hk => hm k (h5 k hk).1 (h5 k hk).2.1), h4, fun k hk => ⟨(h5 k hk).1, Nat.lt_of_lt_of_le (h5 k hk).2.1 hs, (h5 k hk).2.2⟩⟩
theorem RAF_move {W W' : World} {base : Nat} {v : Value} {xs : List JF} {Se : List Nat} (h : RAF W base v xs Se) (hm : ∀ k, base ≤ k → k < W.heap.size → W'.heap[k]? = W.heap[k]?) (hs : W.heap.size ≤ W'.heap.size) : RAF W' base v xs Se := by
  obtain ⟨inner, h1, h2, h3, h4, h5⟩ := h
  exact ⟨inner, ownsRow_move h1 hm, h2.imp_ (fun _ _ hq => Kd.M_mono kF (fun k hk => hk.1) (Kd.M_move kF (w1 := W') (fun k hk => hm k hk.2.1 hk.2.2.1) (Kd.M_bound kF hq))), APF_move xs h3 (fun k hk => hm k (h5 k hk).1 (h5 k hk).2.1), h4, fun k hk => ⟨(h5 k hk).1, Nat.lt_of_lt_of_le (h5 k hk).2.1 hs, (h5 k hk).2.2⟩⟩
theorem RAV.below {W W' : World} {base : Nat} {v : Value} {xs : List JV} {Se : List Nat} (h : RAV W base v xs Se) (hb : Below W.heap.size W W') : RAV W' base v xs Se := RAV_move h (fun k _ hk => hb.block k hk) hb.size
theorem RAF.below {W W' : World} {base : Nat} {v : Value} {xs : List JF} {Se : List Nat} (h : RAF W base v xs Se) (hb : Below W.heap.size W W') : RAF W' base v xs Se := RAF_move h (fun k _ hk => hb.block k hk) hb.size
theorem Apt.lower {W : World} {base base' : Nat} {x : JV} {cs : List Value} {S : List Nat} (h : Apt W base x cs S) (hb : base' ≤ base) : Apt W base' x cs S := ⟨h.1, h.2.1, fun k hk => ⟨Nat.le_trans hb (h.2.2 k hk).1, (h.2.2 k hk).2⟩⟩

/-! ### a value of two rows -/
theorem RAV.part {W : World} {base : Nat} {v : Value} {xs : List JV} {Se : List Nat} (h : RAV W base v xs Se) : ∃ Sl, ((v = .slice none 0 0 ∧ xs = [] ∧ Sl = []) ∨ ∃ g cur Se, RowBlk W 27 8 v xs.length g cur ∧ APL W xs cur.toList Se ∧ Sl = g :: Se) ∧ Sl.Nodup ∧ ∀ k ∈ Sl, base ≤ k ∧ k < W.heap.size := by
  obtain ⟨inner, h1, h2, h3, h4, h5⟩ := h
  rcases h1.2 with ⟨rfl, hn⟩ | ⟨g, c, cur, rfl, hgb, hg, hnc, hcm, hcs, htk⟩
  · exact ⟨[], .inl ⟨rfl, List.eq_nil_of_length_eq_zero hn, rfl⟩, List.nodup_nil, fun k hk => nomatch hk⟩
  · refine ⟨g :: Se, .inr ⟨g, cur, Se, ⟨c, rfl, hg, hnc, hcm, hcs⟩, APL_cut xs h3 ?_, rfl⟩, List.nodup_cons.2 ⟨fun hk => (h5 g hk).2.2 rfl, h4⟩, ?_⟩
    · rw [← htk, List.take_take, Nat.min_self]
    · intro k hk
      rcases List.mem_cons.1 hk with rfl | hk
      · exact ⟨hgb, blk_lt hg⟩
      · exact ⟨(h5 k hk).1, (h5 k hk).2.1⟩
theorem RAF.part {W : World} {base : Nat} {v : Value} {xs : List JF} {Se : List Nat} (h : RAF W base v xs Se) : ∃ Sl, ((v = .slice none 0 0 ∧ xs = [] ∧ Sl = []) ∨ ∃ g cur Se, RowBlk W 69 9 v xs.length g cur ∧ APF W xs cur.toList Se ∧ Sl = g :: Se) ∧ Sl.Nodup ∧ ∀ k ∈ Sl, base ≤ k ∧ k < W.heap.size := by
  obtain ⟨inner, h1, h2, h3, h4, h5⟩ := h
  rcases h1.2 with ⟨rfl, hn⟩ | ⟨g, c, cur, rfl, hgb, hg, hnc, hcm, hcs, htk⟩
  · exact ⟨[], .inl ⟨rfl, List.eq_nil_of_length_eq_zero hn, rfl⟩, List.nodup_nil, fun k hk => nomatch hk⟩
  · refine ⟨g :: Se, .inr ⟨g, cur, Se, ⟨c, rfl, hg, hnc, hcm, hcs⟩, APF_cut xs h3 ?_, rfl⟩, List.nodup_cons.2 ⟨fun hk => (h5 g hk).2.2 rfl, h4⟩, ?_⟩
    · rw [← htk, List.take_take, Nat.min_self]
    · intro k hk
      rcases List.mem_cons.1 hk with rfl | hk
      · exact ⟨hgb, blk_lt hg⟩
      · exact ⟨(h5 k hk).1, (h5 k hk).2.1⟩
theorem Apt_list {W : World} {base : Nat} {v : Value} {xs : List JV} {Se : List Nat} (k : Int) (t n : Bool) (d : ByteArray) (e : Int) (s : ByteArray) (h : RAV W base v xs Se) : ∃ S, Apt W base (.mk k t n d e s xs []) ((JV.mk k t n d e s xs []).cells v (.slice none 0 0)) S := by
  obtain ⟨Sl, h1, h2, h3⟩ := h.part
  refine ⟨Sl ++ [], ?_, by simpa using h2, by simpa using h3⟩
  rw [AP]
  exact ⟨v, .slice none 0 0, Sl, [], rfl, h1, .inl ⟨rfl, rfl, rfl⟩, rfl⟩
theorem Apt_fields {W : World} {base : Nat} {v : Value} {xs : List JF} {Se : List Nat} (k : Int) (t n : Bool) (d : ByteArray) (e : Int) (s : ByteArray) (h : RAF W base v xs Se) : ∃ S, Apt W base (.mk k t n d e s [] xs) ((JV.mk k t n d e s [] xs).cells (.slice none 0 0) v) S := by
  obtain ⟨Sl, h1, h2, h3⟩ := h.part
  refine ⟨[] ++ Sl, ?_, by simpa using h2, by simpa using h3⟩
  rw [AP]
  exact ⟨.slice none 0 0, v, [], Sl, rfl, .inl ⟨rfl, rfl, rfl⟩, h1, rfl⟩
/-- A value without lists, made. -/
theorem Apt_leaf {W : World} {base : Nat} {ok : Nat → Prop} (k : Int) (t n : Bool) (d : ByteArray) (e : Int) (s : ByteArray) {cs : List Value} (h : kV.M W base ok (.mk k t n d e s [] []) cs) : ∃ S, Apt W base (.mk k t n d e s [] []) cs S := by
  obtain ⟨vl, vf, rfl, hl, hf⟩ := kV_openM h
  obtain ⟨_, i1, o1, _⟩ := hl
  obtain ⟨_, i2, o2, _⟩ := hf
  have rl : RAV W base vl [] [] := ⟨i1, o1, ⟨o1.1, fun j p hj => nomatch hj⟩, by rw [APL], List.nodup_nil, fun k hk => nomatch hk⟩
  have rf : RAF W base vf [] [] := ⟨i2, o2, ⟨o2.1, fun j p hj => nomatch hj⟩, by rw [APF], List.nodup_nil, fun k hk => nomatch hk⟩
  obtain ⟨Sl, h1, h2, h3⟩ := rl.part
  obtain ⟨Sf, h4, h5, h6⟩ := rf.part
  refine ⟨Sl ++ Sf, ?_, ?_, fun k hk => (List.mem_append.1 hk).elim (h3 k) (h6 k)⟩
  · rw [AP]
    exact ⟨vl, vf, Sl, Sf, rfl, h1, h4, rfl⟩
  · refine List.nodup_append.2 ⟨h2, h5, ?_⟩
    rcases h1 with ⟨_, _, rfl⟩ | ⟨g, cur, Se, ⟨c, _, hg, _⟩, hS, rfl⟩
    · intro a ha; nomatch ha
    rw [APL] at hS
    subst hS
    rcases h4 with ⟨_, _, rfl⟩ | ⟨g', cur', Se', ⟨c', _, hg', _⟩, hS', rfl⟩
    · intro a _ b hb; nomatch hb
    rw [APF] at hS'
    subst hS'
    intro a ha b hb
    rw [List.mem_singleton] at ha hb
    subst ha hb
    exact blk_ne hg hg' (by decide)

/-! ### append -/
section
variable {P : Program} {ops : Array Oper} {rest : List Oper} {o : Oper} {a : Act} {Q : Exit → Act → World → Prop}
theorem own_after {W : World} {v v1 : Value} (hat : v1.ownBlock = v.ownBlock ∨ ∃ b, v1.ownBlock = some b ∧ W.heap.size ≤ b) {k : Nat} (hk : some k ≠ v.ownBlock) (hlt : k < W.heap.size) : some k ≠ v1.ownBlock := by
  rcases hat with hat | ⟨b, hb, hle⟩
  · rw [hat]; exact hk
  · rw [hb]
    intro he
    injection he with he
    omega
theorem RAV_append {w0 W : World} (base : Nat) (hgd : o.guard = none) (s x : Operand) (t : TypeId) (bytes : Nat) (z : Value)
    (ho : o.op = .call { callee := .builtin .append, args := #[s, x], argTypes := #[t, t] })
    (ht : P.underlying t = some (.slice 27)) (hinfo : (P.info? 27).map (fun i => (i.zero, i.size, i.bytes)) = some (some z, 8, bytes)) (hz : z.cells.size = 8) (hb0 : 0 < bytes)
    (v : Value) (xs : List JV) (p : JV) (cs : List Value) (Se S1 : List Nat) (hs : a.eval s = v) (hx : a.eval x = .slice (some ⟨W.heap.size, 0, none⟩) 1 1) (hp : kV.M W base (fun k => True ∧ some k ≠ v.ownBlock) p cs) (hA : AP W p cs S1) (hn : S1.Nodup) (hS : ∀ k ∈ S1, base ≤ k ∧ k < W.heap.size ∧ some k ≠ v.ownBlock) (hd : ∀ k ∈ S1, k ∉ Se)
    (HO : RAV W base v xs Se) (HB : Below base w0 W) (hbase : base ≤ W.heap.size) (hl : (xs.length + 1) * bytes ≤ 140737488355328)
    (h : ∀ v1 w1, RAV w1 base v1 (xs ++ [p]) (Se ++ S1) → Below base w0 w1 → W.grownBy w1 v.ownBlock → (v1.ownBlock = v.ownBlock ∨ ∃ b, v1.ownBlock = some b ∧ W.heap.size ≤ b) → wpList P ops Q rest (a.put o.dst v1) w1) :
    wpList P ops Q (o :: rest) a (W.alloc (.cells cs.toArray 27)) := by
  obtain ⟨inner, hown, hr, hL, hN, hB⟩ := HO
  refine print_append_cells base hgd s x t 27 z 8 bytes ho ht hinfo hz (by omega) hb0 v xs.length inner cs hs hx (kV.K_len (kV.K_of_M hp)) (kV.K_one (kV.K_of_M hp)) hown HB hbase hl ?_
  intro v1 w1 hown1 hb1 hg1 hat1
  refine h v1 w1 ?_ hb1 hg1 hat1
  obtain ⟨_, inner', ho', hr'⟩ := Kd.R_appended (d := kV) (fun _ _ => trivial) hr hp (fun _ hk => hk) (fun _ _ => trivial) hown1 hg1 hat1
  have he : inner' = inner ++ cs := by
    have h8 : w1.ownsRow base 27 8 v1 (xs ++ [p]).length (inner ++ cs) := by rw [List.length_append, List.length_singleton]; exact hown1
    have h9 : w1.ownsRow base 27 8 v1 (xs ++ [p]).length inner' := ho'
    rcases h8.2 with ⟨rfl, hn⟩ | ⟨g, c, cur, rfl, _, hg, _, _, _, ht⟩
    · have l1 := h8.1
      have l2 := h9.1
      rw [hn] at l1 l2
      rw [List.eq_nil_of_length_eq_zero (by omega : inner'.length = 0), List.eq_nil_of_length_eq_zero (by omega : (inner ++ cs).length = 0)]
    · rcases h9.2 with ⟨hh, _⟩ | ⟨g', c', cur', hh, _, hg', _, _, _, ht'⟩
      · cases hh
      · injection hh with e1 e2 e3
        injection e1 with e1
        injection e1 with e1
        subst e1
        rw [hg] at hg'
        injection hg' with hg'
        injection hg' with hg'
        subst hg'
        rw [← ht, ← ht']
  subst he
  have hmv : ∀ k, k < W.heap.size → some k ≠ v.ownBlock → w1.heap[k]? = W.heap[k]? := fun k hk hne => hg1.block k hk hne
  refine ⟨inner ++ cs, ho', hr', ?_, ?_, ?_⟩
  · refine APL_app xs (by have := hown.1; exact this) (APL_move xs hL (fun k hk => hmv k (hB k hk).2.1 (hB k hk).2.2)) ?_
    rw [APL]
    refine ⟨S1, [], ?_, by rw [APL], (List.append_nil _).symm⟩
    rw [List.take_of_length_le (by rw [kV.K_len (kV.K_of_M hp)]; exact Nat.le_refl _)]
    exact AP_move p hA (fun k hk => hmv k (hS k hk).2.1 (hS k hk).2.2)
  · refine List.nodup_append.2 ⟨hN, hn, ?_⟩
    intro k hk k2 hk2 he
    subst he
    exact hd k hk2 hk
  · intro k hk
    have hsz : W.heap.size ≤ w1.heap.size := hg1.size
    rcases List.mem_append.1 hk with hk | hk
    · exact ⟨(hB k hk).1, Nat.lt_of_lt_of_le (hB k hk).2.1 hsz, own_after hat1 (hB k hk).2.2 (hB k hk).2.1⟩
    · exact ⟨(hS k hk).1, Nat.lt_of_lt_of_le (hS k hk).2.1 hsz, own_after hat1 (hS k hk).2.2 (hS k hk).2.1⟩
end
end Go.Proofs.YtkdeleafgailhaaGreatDoor
end
section
set_option linter.unusedVariables false
set_option linter.unusedSimpArgs false
namespace Go.Proofs.YtkdeleafgailhaaGreatDoor
open Go Go.RowKit Go.Proofs.YtkdeleafgailhaaGreatDoorW.PrintWords

/-- The cells of a slice's block. -/
def rowCells (W : World) : Value → List Value
  | .slice (some a) _ _ => match W.heap[a.block]? with
    | some (.cells cur _ _) => cur.toList
    | _ => []
  | _ => []
mutual
def lsV (W : World) : JV → List Value → List Value
  | .mk k t n d e s l f, cs => cs.getD 6 undef :: (lsL W l (rowCells W (cs.getD 6 undef)) ++ lsF W f (rowCells W (cs.getD 7 undef)))
def lsL (W : World) : List JV → List Value → List Value
  | [], _ => []
  | x :: xs, cs => lsV W x (cs.take 8) ++ lsL W xs (cs.drop 8)
def lsF (W : World) : List JF → List Value → List Value
  | [], _ => []
  | .mk nm v :: fs, cs => lsV W v ((cs.drop 1).take 8) ++ lsF W fs (cs.drop 9)
end
mutual
def fsV (W : World) : JV → List Value → List Value
  | .mk k t n d e s l f, cs => cs.getD 7 undef :: (fsL W l (rowCells W (cs.getD 6 undef)) ++ fsF W f (rowCells W (cs.getD 7 undef)))
def fsL (W : World) : List JV → List Value → List Value
  | [], _ => []
  | x :: xs, cs => fsV W x (cs.take 8) ++ fsL W xs (cs.drop 8)
def fsF (W : World) : List JF → List Value → List Value
  | [], _ => []
  | .mk nm v :: fs, cs => fsV W v ((cs.drop 1).take 8) ++ fsF W fs (cs.drop 9)
end
theorem lsV_cells (W : World) (k : Int) (t n : Bool) (d : ByteArray) (e : Int) (s : ByteArray) (l : List JV) (f : List JF) (vl vf : Value) : lsV W (.mk k t n d e s l f) ((JV.mk k t n d e s l f).cells vl vf) = vl :: (lsL W l (rowCells W vl) ++ lsF W f (rowCells W vf)) := by rw [lsV]; rfl
theorem fsV_cells (W : World) (k : Int) (t n : Bool) (d : ByteArray) (e : Int) (s : ByteArray) (l : List JV) (f : List JF) (vl vf : Value) : fsV W (.mk k t n d e s l f) ((JV.mk k t n d e s l f).cells vl vf) = vf :: (fsL W l (rowCells W vl) ++ fsF W f (rowCells W vf)) := by rw [fsV]; rfl
theorem RowBlk.cells {W : World} {q : TypeId} {sz : Nat} {v : Value} {n g : Nat} {cur : Array Value} (h : RowBlk W q sz v n g cur) : rowCells W v = cur.toList := by
  obtain ⟨cap, rfl, hg, _⟩ := h
  show (match W.heap[g]? with | some (.cells cur _ _) => cur.toList | _ => []) = _
  rw [hg]
theorem RowBlk.own {W : World} {q : TypeId} {sz : Nat} {v : Value} {n g : Nat} {cur : Array Value} (h : RowBlk W q sz v n g cur) : v.ownBlock = some g := by
  obtain ⟨cap, rfl, _⟩ := h
  rfl
/-- A slice that is nil or has a block of its own. -/
def IsRow (W : World) (q : TypeId) (sz : Nat) (B : Nat) (v : Value) : Prop := v = .slice none 0 0 ∨ ∃ n g cur, RowBlk W q sz v n g cur ∧ n ≤ B
theorem IsRow.le {W : World} {q : TypeId} {sz B B' : Nat} {v : Value} (h : IsRow W q sz B v) (hb : B ≤ B') : IsRow W q sz B' v := by
  rcases h with h | ⟨n, g, cur, h1, h2⟩
  · exact .inl h
  · exact .inr ⟨n, g, cur, h1, by omega⟩
def blks (l : List Value) : List Nat := l.filterMap Value.ownBlock
theorem blks_cons (v : Value) (l : List Value) : blks (v :: l) = blks [v] ++ blks l := by
  show List.filterMap _ ([v] ++ l) = _
  rw [List.filterMap_append]; rfl
theorem blks_app (a b : List Value) : blks (a ++ b) = blks a ++ blks b := List.filterMap_append
theorem part_L {W : World} {q : TypeId} {sz : Nat} {v : Value} {α : Type} {l : List α} {A : List α → List Value → List Nat → Prop} {Sl : List Nat} (h : (v = .slice none 0 0 ∧ l = [] ∧ Sl = []) ∨ ∃ g cur Se, RowBlk W q sz v l.length g cur ∧ A l cur.toList Se ∧ Sl = g :: Se) (hnil : A [] [] []) :
    IsRow W q sz l.length v ∧ ∃ Se, A l (rowCells W v) Se ∧ Sl = blks [v] ++ Se := by
  rcases h with ⟨rfl, rfl, rfl⟩ | ⟨g, cur, Se, h1, h2, rfl⟩
  · exact ⟨.inl rfl, [], hnil, rfl⟩
  · refine ⟨.inr ⟨_, g, cur, h1, Nat.le_refl _⟩, Se, by rw [h1.cells]; exact h2, ?_⟩
    unfold blks
    rw [List.filterMap_cons, h1.own]
    rfl
mutual
theorem AP_tree {W : World} : ∀ (x : JV) {cs : List Value} {S : List Nat}, AP W x cs S → (∀ v ∈ lsV W x cs, IsRow W 27 8 x.wt v) ∧ (∀ v ∈ fsV W x cs, IsRow W 69 9 x.wt v) ∧ (∀ a, (blks (lsV W x cs)).count a + (blks (fsV W x cs)).count a = S.count a) ∧ (lsV W x cs).length ≤ x.wt ∧ (fsV W x cs).length ≤ x.wt
  | .mk k t n d e s l f, cs, S, h => by
    rw [AP] at h
    obtain ⟨vl, vf, Sl, Sf, rfl, h2, h3, rfl⟩ := h
    obtain ⟨r1, Se1, a1, rfl⟩ := part_L (A := APL W) h2 (by rw [APL])
    obtain ⟨r2, Se2, a2, rfl⟩ := part_L (A := APF W) h3 (by rw [APF])
    obtain ⟨p1, p2, p3, p4, p5⟩ := APL_tree l a1
    obtain ⟨q1, q2, q3, q4, q5⟩ := APF_tree f a2
    have hl := wtL_len l
    have hf := wtF_len f
    rw [lsV_cells, fsV_cells, JV.wt]
    refine ⟨?_, ?_, ?_, ?_, ?_⟩
    · intro v hv
      rcases List.mem_cons.1 hv with rfl | hv
      · exact r1.le (by omega)
      · rcases List.mem_append.1 hv with hv | hv
        · exact (p1 v hv).le (by omega)
        · exact (q1 v hv).le (by omega)
    · intro v hv
      rcases List.mem_cons.1 hv with rfl | hv
      · exact r2.le (by omega)
      · rcases List.mem_append.1 hv with hv | hv
        · exact (p2 v hv).le (by omega)
        · exact (q2 v hv).le (by omega)
    · intro a
      have := p3 a
      have := q3 a
      rw [blks_cons vl, blks_cons vf]
      simp only [blks_app, List.count_append]
      omega
    · simp only [List.length_cons, List.length_append]; omega
    · simp only [List.length_cons, List.length_append]; omega
theorem APL_tree {W : World} : ∀ (l : List JV) {cs : List Value} {S : List Nat}, APL W l cs S → (∀ v ∈ lsL W l cs, IsRow W 27 8 (JV.wtL l) v) ∧ (∀ v ∈ fsL W l cs, IsRow W 69 9 (JV.wtL l) v) ∧ (∀ a, (blks (lsL W l cs)).count a + (blks (fsL W l cs)).count a = S.count a) ∧ (lsL W l cs).length ≤ JV.wtL l ∧ (fsL W l cs).length ≤ JV.wtL l
  | [], cs, S, h => by
    rw [APL] at h
    subst h
    rw [lsL, fsL]
    exact ⟨(fun v hv => nomatch hv), (fun v hv => nomatch hv), fun a => rfl, Nat.zero_le _, Nat.zero_le _⟩
  | x :: xs, cs, S, h => by
    rw [APL] at h
    obtain ⟨S1, S2, h1, h2, rfl⟩ := h
    obtain ⟨p1, p2, p3, p4, p5⟩ := AP_tree x h1
    obtain ⟨q1, q2, q3, q4, q5⟩ := APL_tree xs h2
    rw [lsL, fsL, JV.wtL]
    refine ⟨?_, ?_, ?_, ?_, ?_⟩
    · intro v hv
      rcases List.mem_append.1 hv with hv | hv
      · exact (p1 v hv).le (by omega)
      · exact (q1 v hv).le (by omega)
    · intro v hv
      rcases List.mem_append.1 hv with hv | hv
      · exact (p2 v hv).le (by omega)
      · exact (q2 v hv).le (by omega)
    · intro a
      have := p3 a
      have := q3 a
      simp only [blks_app, List.count_append]
      omega
    · simp only [List.length_append]; omega
    · simp only [List.length_append]; omega
theorem APF_tree {W : World} : ∀ (l : List JF) {cs : List Value} {S : List Nat}, APF W l cs S → (∀ v ∈ lsF W l cs, IsRow W 27 8 (JV.wtF l) v) ∧ (∀ v ∈ fsF W l cs, IsRow W 69 9 (JV.wtF l) v) ∧ (∀ a, (blks (lsF W l cs)).count a + (blks (fsF W l cs)).count a = S.count a) ∧ (lsF W l cs).length ≤ JV.wtF l ∧ (fsF W l cs).length ≤ JV.wtF l
  | [], cs, S, h => by
    rw [APF] at h
    subst h
    rw [lsF, fsF]
    exact ⟨(fun v hv => nomatch hv), (fun v hv => nomatch hv), fun a => rfl, Nat.zero_le _, Nat.zero_le _⟩
  | .mk nm v0 :: xs, cs, S, h => by
    rw [APF] at h
    obtain ⟨S1, S2, h1, h2, rfl⟩ := h
    obtain ⟨p1, p2, p3, p4, p5⟩ := AP_tree v0 h1
    obtain ⟨q1, q2, q3, q4, q5⟩ := APF_tree xs h2
    rw [lsF, fsF, JV.wtF]
    refine ⟨?_, ?_, ?_, ?_, ?_⟩
    · intro v hv
      rcases List.mem_append.1 hv with hv | hv
      · exact (p1 v hv).le (by omega)
      · exact (q1 v hv).le (by omega)
    · intro v hv
      rcases List.mem_append.1 hv with hv | hv
      · exact (p2 v hv).le (by omega)
      · exact (q2 v hv).le (by omega)
    · intro a
      have := p3 a
      have := q3 a
      simp only [blks_app, List.count_append]
      omega
    · simp only [List.length_append]; omega
    · simp only [List.length_append]; omega
end
theorem rowCells_move {W W' : World} {q : TypeId} {sz B : Nat} {v : Value} (h : IsRow W q sz B v) (hm : ∀ k, v.ownBlock = some k → W'.heap[k]? = W.heap[k]?) : rowCells W' v = rowCells W v := by
  rcases h with rfl | ⟨n, g, cur, h1, _⟩
  · rfl
  · have h2 := h1.move (hm g h1.own)
    rw [h1.cells, h2.cells]
theorem mem_blk {v : Value} {k : Nat} {Se : List Nat} (h : v.ownBlock = some k) : k ∈ blks [v] ++ Se := by
  refine List.mem_append_left _ ?_
  unfold blks
  rw [List.filterMap_cons, h]
  exact List.mem_cons_self
mutual
theorem ls_move {W W' : World} : ∀ (x : JV) {cs : List Value} {S : List Nat}, AP W x cs S → (∀ k ∈ S, W'.heap[k]? = W.heap[k]?) → lsV W' x cs = lsV W x cs ∧ fsV W' x cs = fsV W x cs
  | .mk k t n d e s l f, cs, S, h, hm => by
    rw [AP] at h
    obtain ⟨vl, vf, Sl, Sf, rfl, h2, h3, rfl⟩ := h
    obtain ⟨r1, Se1, a1, rfl⟩ := part_L (A := APL W) h2 (by rw [APL])
    obtain ⟨r2, Se2, a2, rfl⟩ := part_L (A := APF W) h3 (by rw [APF])
    obtain ⟨p1, p2⟩ := lsL_move l a1 (fun k hk => hm k (List.mem_append_left _ (List.mem_append_right _ hk)))
    obtain ⟨q1, q2⟩ := lsF_move f a2 (fun k hk => hm k (List.mem_append_right _ (List.mem_append_right _ hk)))
    have e1 := rowCells_move r1 (fun k hk => hm k (List.mem_append_left _ (mem_blk hk)))
    have e2 := rowCells_move r2 (fun k hk => hm k (List.mem_append_right _ (mem_blk hk)))
    rw [lsV_cells, lsV_cells, fsV_cells, fsV_cells, e1, e2, p1, p2, q1, q2]
    exact ⟨rfl, rfl⟩
theorem lsL_move {W W' : World} : ∀ (l : List JV) {cs : List Value} {S : List Nat}, APL W l cs S → (∀ k ∈ S, W'.heap[k]? = W.heap[k]?) → lsL W' l cs = lsL W l cs ∧ fsL W' l cs = fsL W l cs
  | [], cs, S, h, _ => by rw [lsL, lsL, fsL, fsL]; exact ⟨rfl, rfl⟩
  | x :: xs, cs, S, h, hm => by
    rw [APL] at h
    obtain ⟨S1, S2, h1, h2, rfl⟩ := h
    obtain ⟨p1, p2⟩ := ls_move x h1 (fun k hk => hm k (List.mem_append_left _ hk))
    obtain ⟨q1, q2⟩ := lsL_move xs h2 (fun k hk => hm k (List.mem_append_right _ hk))
    rw [lsL, lsL, fsL, fsL, p1, p2, q1, q2]
    exact ⟨rfl, rfl⟩
theorem lsF_move {W W' : World} : ∀ (l : List JF) {cs : List Value} {S : List Nat}, APF W l cs S → (∀ k ∈ S, W'.heap[k]? = W.heap[k]?) → lsF W' l cs = lsF W l cs ∧ fsF W' l cs = fsF W l cs
  | [], cs, S, h, _ => by rw [lsF, lsF, fsF, fsF]; exact ⟨rfl, rfl⟩
  | .mk nm v :: xs, cs, S, h, hm => by
    rw [APF] at h
    obtain ⟨S1, S2, h1, h2, rfl⟩ := h
    obtain ⟨p1, p2⟩ := ls_move v h1 (fun k hk => hm k (List.mem_append_left _ hk))
    obtain ⟨q1, q2⟩ := lsF_move xs h2 (fun k hk => hm k (List.mem_append_right _ hk))
    rw [lsF, lsF, fsF, fsF, p1, p2, q1, q2]
    exact ⟨rfl, rfl⟩
end

/-! ### one element more -/
theorem lsL_snoc (W : World) : ∀ (l : List JV) (j : Nat) (x : JV) (cs : List Value), l[j]? = some x → lsL W (l.take (j + 1)) cs = lsL W (l.take j) cs ++ lsV W x ((cs.drop (j * 8)).take 8) ∧ fsL W (l.take (j + 1)) cs = fsL W (l.take j) cs ++ fsV W x ((cs.drop (j * 8)).take 8)
  | [], j, x, cs, h => by simp at h
  | y :: l, 0, x, cs, h => by
    injection h with h
    subst h
    rw [List.take_succ_cons, List.take_zero, List.take_zero, lsL, lsL, lsL, fsL, fsL, fsL, Nat.zero_mul, List.drop_zero, List.append_nil, List.nil_append, List.append_nil, List.nil_append]
    exact ⟨rfl, rfl⟩
  | y :: l, j + 1, x, cs, h => by
    obtain ⟨p1, p2⟩ := lsL_snoc W l j x (cs.drop 8) h
    rw [List.take_succ_cons, List.take_succ_cons, lsL, lsL, fsL, fsL, p1, p2, List.drop_drop, show 8 + j * 8 = (j + 1) * 8 by omega, List.append_assoc, List.append_assoc]
    exact ⟨rfl, rfl⟩
theorem lsF_snoc (W : World) : ∀ (l : List JF) (j : Nat) (x : JF) (cs : List Value), l[j]? = some x → lsF W (l.take (j + 1)) cs = lsF W (l.take j) cs ++ lsV W x.value ((cs.drop (j * 9 + 1)).take 8) ∧ fsF W (l.take (j + 1)) cs = fsF W (l.take j) cs ++ fsV W x.value ((cs.drop (j * 9 + 1)).take 8)
  | [], j, x, cs, h => by simp at h
  | .mk nm v :: l, 0, x, cs, h => by
    injection h with h
    subst h
    rw [List.take_succ_cons, List.take_zero, List.take_zero, lsF, lsF, lsF, fsF, fsF, fsF, Nat.zero_mul, Nat.zero_add, List.append_nil, List.nil_append, List.append_nil, List.nil_append]
    exact ⟨rfl, rfl⟩
  | .mk nm v :: l, j + 1, x, cs, h => by
    obtain ⟨p1, p2⟩ := lsF_snoc W l j x (cs.drop 9) h
    rw [List.take_succ_cons, List.take_succ_cons, lsF, lsF, fsF, fsF, p1, p2, List.drop_drop, show 9 + (j * 9 + 1) = (j + 1) * 9 + 1 by omega, List.append_assoc, List.append_assoc]
    exact ⟨rfl, rfl⟩
theorem APL_at {W : World} : ∀ (l : List JV) (j : Nat) (x : JV) {cs : List Value} {S : List Nat}, APL W l cs S → l[j]? = some x → ∃ Sj, AP W x ((cs.drop (j * 8)).take 8) Sj ∧ ∀ k ∈ Sj, k ∈ S
  | [], j, x, cs, S, _, h => by simp at h
  | y :: l, 0, x, cs, S, hA, h => by
    rw [APL] at hA
    injection h with h
    subst h
    obtain ⟨S1, S2, h1, h2, rfl⟩ := hA
    exact ⟨S1, by rw [Nat.zero_mul, List.drop_zero]; exact h1, fun k hk => List.mem_append_left _ hk⟩
  | y :: l, j + 1, x, cs, S, hA, h => by
    rw [APL] at hA
    obtain ⟨S1, S2, h1, h2, rfl⟩ := hA
    obtain ⟨Sj, p1, p2⟩ := APL_at l j x h2 h
    exact ⟨Sj, by rw [List.drop_drop, show 8 + j * 8 = (j + 1) * 8 by omega] at p1; exact p1, fun k hk => List.mem_append_right _ (p2 k hk)⟩
theorem APF_at {W : World} : ∀ (l : List JF) (j : Nat) (x : JF) {cs : List Value} {S : List Nat}, APF W l cs S → l[j]? = some x → ∃ Sj, AP W x.value ((cs.drop (j * 9 + 1)).take 8) Sj ∧ ∀ k ∈ Sj, k ∈ S
  | [], j, x, cs, S, _, h => by simp at h
  | .mk nm v :: l, 0, x, cs, S, hA, h => by
    rw [APF] at hA
    injection h with h
    subst h
    obtain ⟨S1, S2, h1, h2, rfl⟩ := hA
    exact ⟨S1, by rw [Nat.zero_mul, Nat.zero_add]; exact h1, fun k hk => List.mem_append_left _ hk⟩
  | .mk nm v :: l, j + 1, x, cs, S, hA, h => by
    rw [APF] at hA
    obtain ⟨S1, S2, h1, h2, rfl⟩ := hA
    obtain ⟨Sj, p1, p2⟩ := APF_at l j x h2 h
    exact ⟨Sj, by rw [List.drop_drop, show 9 + (j * 9 + 1) = (j + 1) * 9 + 1 by omega] at p1; exact p1, fun k hk => List.mem_append_right _ (p2 k hk)⟩
mutual
theorem AP_lt {W : World} : ∀ (x : JV) {cs : List Value} {S : List Nat}, AP W x cs S → ∀ k ∈ S, k < W.heap.size
  | .mk k t n d e s l f, cs, S, h, q, hq => by
    rw [AP] at h
    obtain ⟨vl, vf, Sl, Sf, _, h2, h3, rfl⟩ := h
    rcases List.mem_append.1 hq with hq | hq
    · rcases h2 with ⟨_, _, rfl⟩ | ⟨g, cur, Se, ⟨_, _, hg, _⟩, h5, rfl⟩
      · nomatch hq
      · rcases List.mem_cons.1 hq with rfl | hq
        · exact blk_lt hg
        · exact APL_lt l h5 q hq
    · rcases h3 with ⟨_, _, rfl⟩ | ⟨g, cur, Se, ⟨_, _, hg, _⟩, h5, rfl⟩
      · nomatch hq
      · rcases List.mem_cons.1 hq with rfl | hq
        · exact blk_lt hg
        · exact APF_lt f h5 q hq
theorem APL_lt {W : World} : ∀ (l : List JV) {cs : List Value} {S : List Nat}, APL W l cs S → ∀ k ∈ S, k < W.heap.size
  | [], cs, S, h, q, hq => by rw [APL] at h; subst h; nomatch hq
  | x :: xs, cs, S, h, q, hq => by
    rw [APL] at h
    obtain ⟨S1, S2, h1, h2, rfl⟩ := h
    exact (List.mem_append.1 hq).elim (AP_lt x h1 q) (APL_lt xs h2 q)
theorem APF_lt {W : World} : ∀ (l : List JF) {cs : List Value} {S : List Nat}, APF W l cs S → ∀ k ∈ S, k < W.heap.size
  | [], cs, S, h, q, hq => by rw [APF] at h; subst h; nomatch hq
  | .mk nm v :: xs, cs, S, h, q, hq => by
    rw [APF] at h
    obtain ⟨S1, S2, h1, h2, rfl⟩ := h
    exact (List.mem_append.1 hq).elim (AP_lt v h1 q) (APF_lt xs h2 q)
end
theorem lsL_take_le (W : World) : ∀ (l : List JV) (j : Nat) (cs : List Value), (lsL W (l.take j) cs).length ≤ (lsL W l cs).length
  | l, 0, cs => by rw [List.take_zero, lsL]; exact Nat.zero_le _
  | [], j + 1, cs => by rw [List.take_nil]; exact Nat.le_refl _
  | x :: l, j + 1, cs => by
    have := lsL_take_le W l j (cs.drop 8)
    rw [List.take_succ_cons, lsL, lsL]
    simp only [List.length_append]; omega
theorem fsL_take_le (W : World) : ∀ (l : List JV) (j : Nat) (cs : List Value), (fsL W (l.take j) cs).length ≤ (fsL W l cs).length
  | l, 0, cs => by rw [List.take_zero, fsL]; exact Nat.zero_le _
  | [], j + 1, cs => by rw [List.take_nil]; exact Nat.le_refl _
  | x :: l, j + 1, cs => by
    have := fsL_take_le W l j (cs.drop 8)
    rw [List.take_succ_cons, fsL, fsL]
    simp only [List.length_append]; omega
theorem lsF_take_le (W : World) : ∀ (l : List JF) (j : Nat) (cs : List Value), (lsF W (l.take j) cs).length ≤ (lsF W l cs).length
  | l, 0, cs => by rw [List.take_zero, lsF]; exact Nat.zero_le _
  | [], j + 1, cs => by rw [List.take_nil]; exact Nat.le_refl _
  | .mk nm v :: l, j + 1, cs => by
    have := lsF_take_le W l j (cs.drop 9)
    rw [List.take_succ_cons, lsF, lsF]
    simp only [List.length_append]; omega
theorem fsF_take_le (W : World) : ∀ (l : List JF) (j : Nat) (cs : List Value), (fsF W (l.take j) cs).length ≤ (fsF W l cs).length
  | l, 0, cs => by rw [List.take_zero, fsF]; exact Nat.zero_le _
  | [], j + 1, cs => by rw [List.take_nil]; exact Nat.le_refl _
  | .mk nm v :: l, j + 1, cs => by
    have := fsF_take_le W l j (cs.drop 9)
    rw [List.take_succ_cons, fsF, fsF]
    simp only [List.length_append]; omega
theorem lsV_pos (W : World) (x : JV) (cs : List Value) : 0 < (lsV W x cs).length := by
  obtain ⟨k, t, n, d, e, s, l, f⟩ := x
  rw [lsV]; simp
theorem fsV_pos (W : World) (x : JV) (cs : List Value) : 0 < (fsV W x cs).length := by
  obtain ⟨k, t, n, d, e, s, l, f⟩ := x
  rw [fsV]; simp
end Go.Proofs.YtkdeleafgailhaaGreatDoor
end
section
set_option linter.unusedVariables false
set_option linter.unusedSimpArgs false
namespace Go.Proofs.YtkdeleafgailhaaGreatDoor
open Go Go.RowKit Go.Proofs.YtkdeleafgailhaaGreatDoorW.PrintWords

section
variable {P : Program} {ops : Array Oper} {o : Oper} {a : Act} {Q : Exit → Act → World → Prop} {Kc : Act → World → Prop}
end
end Go.Proofs.YtkdeleafgailhaaGreatDoor
end
