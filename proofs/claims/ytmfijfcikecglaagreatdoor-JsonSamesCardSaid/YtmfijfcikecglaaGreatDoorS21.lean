/- What reads as data at api.Value is a value: from a row's reading to kV.K. From what a row lists of the package-level variables to what the contracts ask. voyagelaw02.place at a fault. voyagelaw02.code at one of the package's errors: above 0. What a row lists of the package-level variables: where the errors lie. voyageref02.Like: are two values one? voyageref02.Like: values whose heads are one; Like, whole. voyagelaw02.awake: true. -/
import Derived.Test.YtmfijfcikecglaaGreatDoorS20
import Derived.Deep.Strs
import Derived.Deep.Slices
import Derived.ProofKit
import Derived.SizedLaws
import Derived.Test.YtmfijfcikecglaaGreatDoorRows
import Derived.Stop.LaidErr
import Derived.Lib.LaidU8T
import Derived.LaidHandle
import Derived.Lay
import Derived.PinnedBridge
import Derived.LaidEql
import Derived.LaidLaws
import Derived.Test.YtmfijfcikecglaaGreatDoorS10
section
set_option linter.unusedVariables false
set_option linter.unusedSimpArgs false
namespace Go.Proofs.YtmfijfcikecglaaGreatDoor
open Go Go.RowKit Go.Proofs.YtmfijfcikecglaaGreatDoorW.PrintWords Go.ChangeShapes Go.WideShapes

theorem cellsOf_V : Tryz.prog.cellsOf 27 = 8 := by kernel_rfl
theorem cellsOf_F : Tryz.prog.cellsOf 68 = 9 := by kernel_rfl
theorem cellsOf_D : Tryz.prog.cellsOf 23 = 3 := by kernel_rfl
theorem cellsOf_int : Tryz.prog.cellsOf 3 = 1 := by kernel_rfl
theorem cellsOf_bool : Tryz.prog.cellsOf 4 = 1 := by kernel_rfl
theorem cellsOf_str : Tryz.prog.cellsOf 9 = 1 := by kernel_rfl
theorem cellsOf_lV : Tryz.prog.cellsOf 24 = 1 := by kernel_rfl
theorem cellsOf_lF : Tryz.prog.cellsOf 25 = 1 := by kernel_rfl
instance : Inhabited JV := ⟨JV.nul⟩
instance : Inhabited JF := ⟨JF.nul⟩

section
variable {H : Type} {enc : TypeId × Value → H} {w : World} {spare : Nat → Bool} {held : Bool}
/-- No text, no row of a datum is greater than may be. -/
def Sm (t : TypeId) (d : DataW H) : Prop := ∀ n ∈ d.weights Tryz.prog t, n ≤ reachBytes
theorem weights_all {e : TypeId} : ∀ {l : List (DataW H)} {d : DataW H}, d ∈ l → ∀ n ∈ d.weights Tryz.prog e, n ∈ DataW.weightsAll Tryz.prog e l
  | x :: l, d, h, n, hn => by
    rw [DataW.weightsAll, List.mem_append]
    rcases List.mem_cons.1 h with rfl | h
    · exact .inl hn
    · exact .inr (weights_all h n hn)
theorem Sm.str {s : ByteArray} {t : TypeId} (h : Sm t (.lit (.string s.data.toList) : DataW H)) : s.size ≤ reachBytes := by
  have := h s.data.toList.length (by simp [DataW.weights])
  rw [Array.length_toList] at this
  exact this
theorem Sm.part {t : TypeId} {fs : Array Field} {ps : List (DataW H)} (hu : Tryz.prog.underlying t = some (.struct fs)) (h : Sm t (.agg ps)) {j : Nat} {f : Field} {d : DataW H} (hf : fs[j]? = some f) (hd : ps[j]? = some d) : Sm f.type d := fun n hn => by
  refine h n ?_
  rw [DataW.weights, hu]
  exact DataW.weights_mem_each (by simp [hf]) hd n hn
theorem trod_row {α : Type} [Inhabited α] {t e : TypeId} {sz fuel B : Nat} {cs : List Value} {x : DataW H × List MemPlace} (R : α → List Value → Prop) (G : α → Prop) (ht : Tryz.prog.underlying t = some (.slice e)) (hc : Tryz.prog.cellsOf e = sz) (hB : Tryz.prog.bytesOf e = B) (hB0 : 0 < B)
    (h : DataW.trod enc Tryz.prog w 0 spare held fuel t cs = some x) (hsm : Sm t x.1) (ih : ∀ n, n < fuel → ∀ cs y, DataW.trod enc Tryz.prog w 0 spare held n e cs = some y → Sm e y.1 → ∃ v, R v cs ∧ G v) :
    ∃ A len c xs, cs = [.slice A len c] ∧ len ≤ c ∧ len ≤ 140737488355328 ∧ ReadsRow R sz w A len xs ∧ xs.length = len ∧ ∀ y ∈ xs, G y := by
  rcases DataW.trod_slice ht h with ⟨rfl, _⟩ | ⟨a, len, cap, elems, rest, n, rfl, rfl, rfl, hb, hl, hm, hlen, hel, _, _⟩
  · exact ⟨none, 0, 0, [], rfl, Nat.le_refl _, Nat.zero_le _, ⟨rfl, by decide, fun h => absurd h (by decide)⟩, rfl, fun y h => nomatch h⟩
  · have hlb : len ≤ reachBytes := by
      have h1 := hsm (((elems.map (·.1)).length + (rest.map (·.1)).length) * B) (by rw [← hB]; simp [DataW.weights, ht])
      have h2 : len ≤ (elems.map (·.1)).length + (rest.map (·.1)).length := by simp; omega
      exact Nat.le_trans h2 (Nat.le_trans (Nat.le_mul_of_pos_right _ hB0) h1)
    have hmx : reachBytes ≤ 140737488355328 := by decide
    have key : ∀ i, i < len → ∃ v, G v ∧ ∃ c, c.length = sz ∧ R v c ∧ ∀ j u, c[j]? = some u → w.cell? (a.add (i * sz + j)) = some u := by
      intro i hi
      have h1 := hel i hi
      rw [List.getElem?_eq_getElem (by omega)] at h1
      obtain ⟨c, hc1, hc2⟩ := Option.bind_eq_some_iff.1 h1
      obtain ⟨v, hv, hg⟩ := ih n (by omega) _ _ hc2 (fun m hmm => hsm m (by
        rw [DataW.weights, ht]
        refine List.mem_cons_of_mem _ (List.mem_append_left _ (weights_all ?_ m hmm))
        exact List.mem_map.2 ⟨_, List.getElem_mem _, rfl⟩))
      obtain ⟨_, hcl, hcell⟩ := World.cells?_some hc1
      rw [hc] at hcl hcell
      refine ⟨v, hg, c, hcl, hv, fun j u hj => ?_⟩
      have := hcell j (by have := (List.getElem?_eq_some_iff.1 hj).1; omega)
      rw [Go.Deep.add_add, hj] at this
      exact this
    obtain ⟨V, hV⟩ := Go.Deep.choose_lt key
    refine ⟨some a, len, cap, (List.range len).map V, rfl, hl, by omega, ⟨by simp, by omega, fun _ => ⟨a, rfl, fun j p hj => ?_⟩⟩, by simp, fun y hy => ?_⟩
    · have hjl : j < len := by simpa using (List.getElem?_eq_some_iff.1 hj).1
      have : V j = p := by simpa [hjl] using hj
      subst this
      exact (hV j hjl).2
    · obtain ⟨i, hi, rfl⟩ := List.mem_map.1 hy
      exact (hV i (List.mem_range.1 hi)).1
theorem fitsL_of : ∀ {l : List JV}, (∀ y ∈ l, y.fits) → JV.fitsL l
  | [], _ => by rw [JV.fitsL]; trivial
  | x :: l, h => by rw [JV.fitsL]; exact ⟨h x (.head _), fitsL_of (fun y hy => h y (.tail _ hy))⟩
theorem fitsF_of : ∀ {l : List JF}, (∀ y ∈ l, y.name.size ≤ 140737488355328 ∧ y.value.fits) → JV.fitsF l
  | [], _ => by rw [JV.fitsF]; trivial
  | .mk nm v :: l, h => by rw [JV.fitsF]; exact ⟨(h _ (.head _)).1, (h _ (.head _)).2, fitsF_of (fun y hy => h y (.tail _ hy))⟩
theorem wf64 {k : Int} (h : (Lit.int .i64 k).wf = true) : -9223372036854775808 ≤ k ∧ k ≤ 9223372036854775807 := by
  simpa [Lit.wf, IntKind.min, IntKind.max, IntKind.signed, IntKind.bits] using h
theorem list8 {α : Type} {l : List α} (h : l.length = 8) : ∃ c0 c1 c2 c3 c4 c5 c6 c7, l = [c0, c1, c2, c3, c4, c5, c6, c7] := by
  match l, h with
  | [c0, c1, c2, c3, c4, c5, c6, c7], _ => exact ⟨c0, c1, c2, c3, c4, c5, c6, c7, rfl⟩
theorem list9 {α : Type} {l : List α} (h : l.length = 9) : ∃ c0 r, l = c0 :: r ∧ r.length = 8 := by
  match l, h with
  | c0 :: r, h => exact ⟨c0, r, rfl, by simpa using h⟩
theorem list3 {α : Type} {l : List α} (h : l.length = 3) : ∃ c0 c1 c2, l = [c0, c1, c2] := by
  match l, h with
  | [c0, c1, c2], _ => exact ⟨c0, c1, c2, rfl⟩
theorem list2 {α : Type} {l : List α} (h : l.length = 2) : ∃ c0 c1, l = [c0, c1] := by
  match l, h with
  | [c0, c1], _ => exact ⟨c0, c1, rfl⟩
theorem list6 {α : Type} {l : List α} (h : l.length = 6) : ∃ c0 c1 c2 c3 c4 c5, l = [c0, c1, c2, c3, c4, c5] := by
  match l, h with
  | [c0, c1, c2, c3, c4, c5], _ => exact ⟨c0, c1, c2, c3, c4, c5, rfl⟩
theorem bytesOf_V : Tryz.prog.bytesOf 27 = 112 := by kernel_rfl
theorem bytesOf_F : Tryz.prog.bytesOf 68 = 128 := by kernel_rfl
set_option maxRecDepth 100000 in
theorem trod_V : ∀ (fuel : Nat) (cs : List Value) (x : DataW H × List MemPlace), DataW.trod enc Tryz.prog w 0 spare held fuel 27 cs = some x → Sm 27 x.1 → ∃ v : JV, kV.K w v cs ∧ v.fits := by
  intro fuel
  induction fuel using Nat.strongRecOn with
  | ind fuel ih =>
    intro cs x h hsm
    have hmx : reachBytes ≤ 140737488355328 := by decide
    obtain ⟨ys, n, rfl, rfl, hlen, hys, hf⟩ := DataW.trod_struct Tryz.underlying27 h
    obtain ⟨c0, c1, c2, c3, c4, c5, c6, c7, rfl⟩ := list8 (hlen.trans cellsOf_V)
    obtain ⟨y0, y1, y2, y3, y4, y5, rfl⟩ := list6 hys
    have h0 := hf 0 _ rfl
    have h1 := hf 1 _ rfl
    have h2 := hf 2 _ rfl
    have h3 := hf 3 _ rfl
    have h4 := hf 4 _ rfl
    have h5 := hf 5 _ rfl
    simp [cellsOf_int, cellsOf_bool, cellsOf_D, cellsOf_str, cellsOf_lV, cellsOf_lF] at h0 h1 h2 h3 h4 h5
    have s2 := Sm.part Tryz.underlying27 hsm (j := 2) rfl rfl
    have s3 := Sm.part Tryz.underlying27 hsm (j := 3) rfl rfl
    have s4 := Sm.part Tryz.underlying27 hsm (j := 4) rfl rfl
    have s5 := Sm.part Tryz.underlying27 hsm (j := 5) rfl rfl
    obtain ⟨k, e0, _, hk⟩ := DataW.trod_int Tryz.underlying3 h0
    obtain ⟨t, e1, _⟩ := DataW.trod_bool Tryz.underlying4 h1
    obtain ⟨zs, m, _, rfl, _, hzs, hg⟩ := DataW.trod_struct Tryz.underlying23 h2
    obtain ⟨z0, z1, z2, rfl⟩ : ∃ z0 z1 z2, zs = [z0, z1, z2] := by
      exact list3 hzs
    have g0 := hg 0 _ rfl
    have g1 := hg 1 _ rfl
    have g2 := hg 2 _ rfl
    simp [cellsOf_int, cellsOf_bool, cellsOf_str] at g0 g1 g2
    have s21 := Sm.part Tryz.underlying23 s2 (j := 1) rfl rfl
    obtain ⟨ng, e2, _⟩ := DataW.trod_bool Tryz.underlying4 g0
    obtain ⟨ds, e3, rfl, hds⟩ := DataW.trod_string Tryz.underlying9 g1
    obtain ⟨ex, e4, _, hex⟩ := DataW.trod_int Tryz.underlying3 g2
    obtain ⟨tx, e5, rfl, htx⟩ := DataW.trod_string Tryz.underlying9 h3
    have z1 := Sm.str s21
    have z3 := Sm.str s3
    obtain ⟨A, ll, cl, xs, e6, hlc, hlm, hrl, hxl, hxs⟩ := trod_row (kV.K w) JV.fits Tryz.underlying24 cellsOf_V bytesOf_V (by decide) h4 s4 (fun m hm cs y hy hs => ih m (by omega) cs y hy hs)
    obtain ⟨B, lf, cf, fs, e7, hfc, hfm, hrf, hfl, hfs⟩ := trod_row (kF.K w) (fun f : JF => f.name.size ≤ 140737488355328 ∧ f.value.fits) Tryz.underlying25 cellsOf_F bytesOf_F (by decide) h5 s5 (fun m hm cs y hy hs => by
      obtain ⟨us, p, rfl, rfl, hl9, hus, hg⟩ := DataW.trod_struct Tryz.underlying68 hy
      obtain ⟨q0, r, rfl, hr8⟩ := list9 (hl9.trans cellsOf_F)
      obtain ⟨u0, u1, rfl⟩ : ∃ u0 u1, us = [u0, u1] := by
        exact list2 hus
      have p0 := hg 0 _ rfl
      have p1 := hg 1 _ rfl
      simp [cellsOf_str, cellsOf_V] at p0 p1
      rw [List.take_of_length_le (by omega)] at p1
      have t0 := Sm.part Tryz.underlying68 hs (j := 0) rfl rfl
      have t1 := Sm.part Tryz.underlying68 hs (j := 1) rfl rfl
      obtain ⟨nm, e8, rfl, hnm⟩ := DataW.trod_string Tryz.underlying9 p0
      have hnz := Sm.str t0
      obtain ⟨v, hv, hvf⟩ := ih p (by omega) _ _ p1 t1
      injection e8 with e8
      subst e8
      exact ⟨.mk nm v, ⟨[.string nm], r, rfl, rfl, hv⟩, by show nm.size ≤ _; omega, hvf⟩)
    injection e0 with e0
    injection e1 with e1
    injection e2 with e2
    injection e3 with e3
    injection e4 with e4
    injection e5 with e5
    injection e6 with e6
    injection e7 with e7
    subst e0 e1 e2 e3 e4 e5 e6 e7 hxl hfl
    refine ⟨.mk k t ng ds ex tx xs fs, kV_mkK (x := .mk k t ng ds ex tx xs fs) hlc hrl hfc hrf, ?_⟩
    rw [JV.fits]
    exact ⟨wf64 hk, wf64 hex, by omega, by omega, hlm, hfm, fitsL_of hxs, fitsF_of hfs⟩
theorem trod_lt_V {v : Value} {d : DataW H} {ps : List MemPlace} (h : DataW.Trod enc Tryz.prog w 0 spare held 27 v d ps) : ∀ x ∈ ps, x.block < w.heap.size := by
  obtain ⟨m, hm⟩ := h
  exact DataW.trod_lt m _ _ _ hm
set_option maxRecDepth 100000 in
/-- An argument of type api.Value. -/
theorem arg_V {r : Reach} {b0 : Nat} {v : Value} {d : DataW H} {ps : List MemPlace} (hv : Value.okWide Tryz.prog w r b0 27 v) (h : DataW.Trod enc Tryz.prog w 0 spare held 27 v d ps) (hs : Sm 27 d) :
    ∃ (cs : List Value) (x : JV), v = .agg cs.toArray ∧ kV.K w x cs ∧ x.fits := by
  obtain ⟨cs, rfl, hsz⟩ := okWide_struct Tryz.underlying27 hv
  obtain ⟨fuel, hf⟩ := h
  obtain ⟨x, hx, hfx⟩ := trod_V fuel _ _ hf hs
  exact ⟨_, x, by simp [Value.cells], hx, hfx⟩
end
end Go.Proofs.YtmfijfcikecglaaGreatDoor
end
section
set_option linter.unusedVariables false
set_option linter.unusedSimpArgs false
namespace Go.Proofs.YtmfijfcikecglaaGreatDoor
open Go Go.RowKit Go.Shelf Go.Lib

theorem star_es : "*errors.errorString" = "*" ++ "errors.errorString" := by decide +kernel
theorem row_es (u : TypeId) (h : Tryz.prog.typeName? 3 u = some "*errors.errorString") : u = 207 :=
  typeName_ptr_named (nm := "errors.errorString") (by rw [← star_es]; kernel_rfl) (by kernel_rfl) (by decide) u (by rw [← star_es]; exact h)
theorem sentinel_mem {W : World} {n : String} {text : List UInt8} {g : Nat} (hg : Tryz.prog.globalNamed n = some g) (ht : (Tryz.prog.globals[g]?).map (·.type) = some 46) : ∀ {l : List (String × DataW Unit)}, laidMet Tryz.prog l W → (n, DataW.iface "*errors.errorString" (.ptr (.agg [.lit (.string text)]))) ∈ l → ∃ a, W.var? Tryz.prog n = some #[ev a]
  | x :: r, h, hm => by
    rcases List.mem_cons.1 hm with rfl | hm
    · obtain ⟨a, s, hv, _⟩ := laid_sentinel h hg ht Tryz.underlying46 row_es Tryz.underlying207 Tryz.underlying209 rfl rfl Tryz.underlying9 (by kernel_rfl) cellsOf_str
      exact ⟨a, hv⟩
    · exact sentinel_mem hg ht h.tail hm
theorem u8x : U8Extra Tryz.prog Tryz.lays196_ren := ⟨by kernel_rfl, by kernel_rfl, by kernel_rfl, by kernel_rfl, by kernel_rfl, by kernel_rfl, by kernel_rfl⟩
theorem oneRowError : ((List.range Tryz.prog.types.size).filter fun t => Tryz.prog.rowNamed t [101, 114, 114, 111, 114]) = [46] := by kernel_rfl
theorem rtypeRow : (Tryz.prog.cutTypes.find? (·.1 == "internal/reflectlite.rtype")).map (·.2) = some 144 := by kernel_rfl
theorem handle_mem {W : World} {hs : List (String × DataW Unit)} (hh : handlesMet Tryz.prog hs W) (hm : ("errors.errorType", Rows.laid_errors_errorType) ∈ hs) : W.cell? ⟨7, 0, none⟩ = some (.iface 144 (.agg #[typeHandle Tryz.prog 46])) := by
  obtain ⟨name, u, ty, e1, e2, e3, e4, e5⟩ := hh _ hm
  have en : name = [101, 114, 114, 111, 114] := (Option.some.inj e1).symm
  subst en
  obtain rfl := Option.some.inj (rtypeRow.symm.trans e2)
  have hm2 : ty ∈ (List.range Tryz.prog.types.size).filter fun t => Tryz.prog.rowNamed t [101, 114, 114, 111, 114] := List.mem_filter.2 ⟨List.mem_range.2 e3, e4⟩
  rw [oneRowError] at hm2
  obtain rfl := List.mem_singleton.1 hm2
  simpa using World.var?_cell (show Tryz.prog.globalNamed "errors.errorType" = some 7 by kernel_rfl) e5 0
theorem accept_eq : (Rows.laid_unicode_utf8_acceptRanges : DataW Unit) = acceptData := by kernel_rfl
theorem pow_eq : (Rows.laid_internal_strconv_uint64pow10 : DataW Unit) = tabData .u64 pow10Tab := by kernel_rfl
theorem pow_of {W : World} (h : VarReads Tryz.prog W "internal/strconv.uint64pow10" (tabData .u64 pow10Tab)) : TabIs Tryz.prog W "internal/strconv.uint64pow10" .u64 pow10Tab := by
  obtain ⟨g', t', cs, fuel, p, hg', ht', hvar, hd⟩ := h
  obtain rfl := Option.some.inj ((show Tryz.prog.globalNamed "internal/strconv.uint64pow10" = some 11 by kernel_rfl).symm.trans hg')
  obtain rfl := Option.some.inj ((show (Tryz.prog.globals[11]?).map (·.type) = some 188 by kernel_rfl).symm.trans ht')
  unfold TabIs
  rw [hvar, ← cells_of_tab Tryz.underlying188 Tryz.underlying167 (by kernel_rfl) (by kernel_rfl) hd]
theorem penv_of {l hs : List (String × DataW Unit)} {W : World} (hd : laidMet Tryz.prog l W) (hh : handlesMet Tryz.prog hs W) (mh : ("errors.errorType", Rows.laid_errors_errorType) ∈ hs)
    (m1 : ("voyage/api.ErrDue", Rows.laid_voyage_api_ErrDue) ∈ l) (m2 : ("voyage/api.ErrLong", Rows.laid_voyage_api_ErrLong) ∈ l) (m3 : ("voyage/api.ErrDeep", Rows.laid_voyage_api_ErrDeep) ∈ l) (m4 : ("voyage/api.ErrTwice", Rows.laid_voyage_api_ErrTwice) ∈ l)
    (m5 : ("voyage/api.ErrText", Rows.laid_voyage_api_ErrText) ∈ l) (m6 : ("voyage/api.ErrNumber", Rows.laid_voyage_api_ErrNumber) ∈ l) (m7 : ("voyage/api.ErrExponent", Rows.laid_voyage_api_ErrExponent) ∈ l) (m8 : ("strconv.ErrSyntax", Rows.laid_strconv_ErrSyntax) ∈ l)
    (m9 : ("unicode/utf8.first", Rows.laid_unicode_utf8_first) ∈ l) (m10 : ("unicode/utf8.acceptRanges", Rows.laid_unicode_utf8_acceptRanges) ∈ l) (m11 : ("internal/strconv.uint64pow10", Rows.laid_internal_strconv_uint64pow10) ∈ l) : ∃ E, PEnv E W := by
  obtain ⟨a1, h1⟩ := sentinel_mem (g := 1) (by kernel_rfl) (by kernel_rfl) hd m1
  obtain ⟨a2, h2⟩ := sentinel_mem (g := 0) (by kernel_rfl) (by kernel_rfl) hd m2
  obtain ⟨a3, h3⟩ := sentinel_mem (g := 5) (by kernel_rfl) (by kernel_rfl) hd m3
  obtain ⟨a4, h4⟩ := sentinel_mem (g := 6) (by kernel_rfl) (by kernel_rfl) hd m4
  obtain ⟨a5, h5⟩ := sentinel_mem (g := 4) (by kernel_rfl) (by kernel_rfl) hd m5
  obtain ⟨a6, h6⟩ := sentinel_mem (g := 2) (by kernel_rfl) (by kernel_rfl) hd m6
  obtain ⟨a7, h7⟩ := sentinel_mem (g := 3) (by kernel_rfl) (by kernel_rfl) hd m7
  obtain ⟨a8, h8⟩ := sentinel_mem (g := 14) (by kernel_rfl) (by kernel_rfl) hd m8
  have r9 : VarReads Tryz.prog W "unicode/utf8.first" firstData := Pinned.utf8First_eq ▸ laidMet.reads hd m9
  have r10 : VarReads Tryz.prog W "unicode/utf8.acceptRanges" acceptData := accept_eq ▸ laidMet.reads hd m10
  have r11 : VarReads Tryz.prog W "internal/strconv.uint64pow10" (tabData .u64 pow10Tab) := pow_eq ▸ laidMet.reads hd m11
  exact ⟨⟨a1, a2, a3, a4, a5, a6, a7⟩, ⟨⟨h1, h2, h3, h4, h5, h6, h7⟩, ⟨utf8Tabs_of_readsT (U8Types.of196 Tryz.lays196) u8x r9 r10, pow_of r11⟩, ⟨_, _, (var_block (by kernel_rfl) h8).2⟩, handle_mem hh mh⟩⟩
end Go.Proofs.YtmfijfcikecglaaGreatDoor
end
section
set_option linter.unusedVariables false
set_option linter.unusedSimpArgs false
namespace Go.Proofs.YtmfijfcikecglaaGreatDoor
open Go Go.RowKit Go.Proofs.YtmfijfcikecglaaGreatDoorW.PrintWords

theorem eq_err (a : Addr) (W : World) : (binOp .eql 46 (.iface 207 (.pointer (some a))) (.iface 207 (.pointer (some a)))).run Tryz.prog W = .ok (.bool true) W := by
  obtain ⟨i, hi, hc⟩ := Option.map_eq_some_iff.1 (show (Tryz.prog.info? 207).map (·.comparable) = some true by kernel_rfl)
  obtain ⟨j, hj, _⟩ := Option.map_eq_some_iff.1 (show (Tryz.prog.info? 209).map (·.size) = some 1 by kernel_rfl)
  exact run_eql_iface_ptr_same W a Tryz.underlying46 Tryz.underlying207 hi hc hj

set_option maxRecDepth 100000 in
set_option maxHeartbeats 4000000 in
theorem place_any (at_ : Int) (a : Addr) (v : Value) (w : World) (hv : IsFault v at_ (ev a) w) (hE : w.cell? ⟨7, 0, none⟩ = some (.iface 144 (.agg #[typeHandle Tryz.prog 46]))) :
    Calls Tryz.prog 30 #[v] w fun e w' => e = .returned (.tuple #[.int .i64 at_, .iface 207 (.pointer (some a))]) ∧ Below w.heap.size w w' := by
  obtain ⟨k, rfl, hk⟩ := hv
  have hB := (Below.refl w.heap.size w).alloc (Nat.le_refl _) (.cells #[.pointer none] 84)
  have hn := heap_alloc_new w (.cells #[.pointer none] 84)
  have hE1 := pw_cell_below hB hE
  have hk1 := (hB.block k (blk_lt hk)).trans hk
  have hne : some k ≠ some w.heap.size := by intro e; injection e with e; have := blk_lt hk; omega
  have cA := as_fault k w.heap.size _ hn hE1
  replace hB := Aside0.mk hB
  replace hk1 := Aside0.mk hk1
  clear hn hE1 hk hE
  go_enter Tryz.func30, Tryz.ntmps30
  go_wp2_with (go_at_call 58; refine cA.mono ?_; rintro e w3 ⟨rfl, hf3, hW3⟩; have hcf := cellAll hf3; have hk3 := (hW3.block _ (blk_lt hk1.out) hne).trans hk1.out; have hck := cellAll hk3; have hB3 := Aside0.mk (hB.out.trans (hW3.below (Nat.le_refl _) hB.out.size)); replace hf3 := Aside0.mk hf3; replace hk3 := Aside0.mk hk3; unfold ev at hck)
  go_quiet (fail)
  go_wp2_with fail
  go_ret2
  exact ⟨rfl, pw_below_drewN hB3.out _⟩
end Go.Proofs.YtmfijfcikecglaaGreatDoor
end
section
set_option linter.unusedVariables false
set_option linter.unusedSimpArgs false
namespace Go.Proofs.YtmfijfcikecglaaGreatDoor
open Go Go.RowKit Go.Proofs.YtmfijfcikecglaaGreatDoorW.PrintWords

/-- Each error variable's address lies in plain memory. -/
def ErrB (E : ErrV) (w : World) : Prop := ∀ a ∈ [E.due, E.long, E.deep, E.twice, E.text, E.number, E.exponent], ∃ c t, w.heap[a.block]? = some (.cells c t (0, 0))
theorem ErrB.below {E : ErrV} {w w' : World} (h : ErrB E w) (hb : Below w.heap.size w w') : ErrB E w' := fun a ha => by
  obtain ⟨c, t, hc⟩ := h a ha
  exact ⟨c, t, (hb.block _ (blk_lt hc)).trans hc⟩
end Go.Proofs.YtmfijfcikecglaaGreatDoor
end
section
set_option linter.unusedVariables false
set_option linter.unusedSimpArgs false
namespace Go.Proofs.YtmfijfcikecglaaGreatDoor
open Go Go.RowKit Go.Shelf Go.Lib

theorem laid_sentinel2 {P : Program} {n nm : String} {text : List UInt8} {r : List (String × DataW Unit)} {W : World} {g : Nat} {ti tp te ts : TypeId} {ms : Array (String × TypeId)} {f : Field}
    (h : laidMet P ((n, .iface nm (.ptr (.agg [.lit (.string text)]))) :: r) W)
    (hg : P.globalNamed n = some g) (ht : (P.globals[g]?).map (·.type) = some ti) (hi : P.underlying ti = some (.interface ms)) (hrow : ∀ u, P.typeName? 3 u = some nm → u = tp)
    (hp : P.underlying tp = some (.pointer te)) (he : P.underlying te = some (.struct #[f])) (hft : f.type = ts) (hfo : f.offset = 0) (hs : P.underlying ts = some .string) (hc : P.cellsOf te = 1) (hcs : P.cellsOf ts = 1) :
    ∃ (a : Addr), W.var? P n = some #[.iface tp (.pointer (some a))] ∧ ∃ c t, W.heap[a.block]? = some (.cells c t (0, 0)) := by
  obtain ⟨ps, ⟨g0, t0, cs0, f0, p0, q0, hg0, ht0, hv0, hd0, _, e0⟩, _, hrows⟩ := h
  obtain rfl := Option.some.inj (hg.symm.trans hg0)
  obtain rfl := Option.some.inj (ht.symm.trans ht0)
  subst e0
  obtain ⟨l0⟩ := cs0
  have ok0 : ∀ u v, l0 = [.iface u v] → Value.okWide P W .any 0 u v := fun u v e => by
    subst e
    exact (hrows g 0 (by simp [MemPlace.row])).2 u v (by simpa using World.var?_cell hg0 hv0 0)
  obtain ⟨a0, s0, rfl, hc0, hs0, hz0, rfl⟩ := errorString_of_trod hi hrow hp he hft hfo hs hc hcs hd0 ok0
  exact ⟨a0, hv0, (hrows a0.block a0.off (by simp [MemPlace.row])).1⟩
theorem sentinel_mem2 {W : World} {n : String} {text : List UInt8} {g : Nat} (hg : Tryz.prog.globalNamed n = some g) (ht : (Tryz.prog.globals[g]?).map (·.type) = some 46) : ∀ {l : List (String × DataW Unit)}, laidMet Tryz.prog l W → (n, DataW.iface "*errors.errorString" (.ptr (.agg [.lit (.string text)]))) ∈ l → ∃ a, W.var? Tryz.prog n = some #[ev a] ∧ ∃ c t, W.heap[a.block]? = some (.cells c t (0, 0))
  | x :: r, h, hm => by
    rcases List.mem_cons.1 hm with rfl | hm
    · obtain ⟨a, hv, hc⟩ := laid_sentinel2 h hg ht Tryz.underlying46 row_es Tryz.underlying207 Tryz.underlying209 rfl rfl Tryz.underlying9 (by kernel_rfl) cellsOf_str
      exact ⟨a, hv, hc⟩
    · exact sentinel_mem2 hg ht h.tail hm
theorem penv2_of {l hs : List (String × DataW Unit)} {W : World} (hd : laidMet Tryz.prog l W) (hh : handlesMet Tryz.prog hs W) (mh : ("errors.errorType", Rows.laid_errors_errorType) ∈ hs)
    (m1 : ("voyage/api.ErrDue", Rows.laid_voyage_api_ErrDue) ∈ l) (m2 : ("voyage/api.ErrLong", Rows.laid_voyage_api_ErrLong) ∈ l) (m3 : ("voyage/api.ErrDeep", Rows.laid_voyage_api_ErrDeep) ∈ l) (m4 : ("voyage/api.ErrTwice", Rows.laid_voyage_api_ErrTwice) ∈ l)
    (m5 : ("voyage/api.ErrText", Rows.laid_voyage_api_ErrText) ∈ l) (m6 : ("voyage/api.ErrNumber", Rows.laid_voyage_api_ErrNumber) ∈ l) (m7 : ("voyage/api.ErrExponent", Rows.laid_voyage_api_ErrExponent) ∈ l) (m8 : ("strconv.ErrSyntax", Rows.laid_strconv_ErrSyntax) ∈ l)
    (m9 : ("unicode/utf8.first", Rows.laid_unicode_utf8_first) ∈ l) (m10 : ("unicode/utf8.acceptRanges", Rows.laid_unicode_utf8_acceptRanges) ∈ l) (m11 : ("internal/strconv.uint64pow10", Rows.laid_internal_strconv_uint64pow10) ∈ l) : ∃ E, PEnv E W ∧ ErrB E W := by
  obtain ⟨a1, h1, b1⟩ := sentinel_mem2 (g := 1) (by kernel_rfl) (by kernel_rfl) hd m1
  obtain ⟨a2, h2, b2⟩ := sentinel_mem2 (g := 0) (by kernel_rfl) (by kernel_rfl) hd m2
  obtain ⟨a3, h3, b3⟩ := sentinel_mem2 (g := 5) (by kernel_rfl) (by kernel_rfl) hd m3
  obtain ⟨a4, h4, b4⟩ := sentinel_mem2 (g := 6) (by kernel_rfl) (by kernel_rfl) hd m4
  obtain ⟨a5, h5, b5⟩ := sentinel_mem2 (g := 4) (by kernel_rfl) (by kernel_rfl) hd m5
  obtain ⟨a6, h6, b6⟩ := sentinel_mem2 (g := 2) (by kernel_rfl) (by kernel_rfl) hd m6
  obtain ⟨a7, h7, b7⟩ := sentinel_mem2 (g := 3) (by kernel_rfl) (by kernel_rfl) hd m7
  obtain ⟨E, hE⟩ := penv_of hd hh mh m1 m2 m3 m4 m5 m6 m7 m8 m9 m10 m11
  have key : ∀ {n : String} {a b : Addr}, W.var? Tryz.prog n = some #[ev a] → W.var? Tryz.prog n = some #[ev b] → a = b := fun {n a b} h h' => by
    have e := h.symm.trans h'
    unfold ev at e
    simpa using e
  have k1 := key h1 hE.errs.due
  have k2 := key h2 hE.errs.long
  have k3 := key h3 hE.errs.deep
  have k4 := key h4 hE.errs.twice
  have k5 := key h5 hE.errs.text
  have k6 := key h6 hE.errs.number
  have k7 := key h7 hE.errs.exponent
  refine ⟨E, hE, fun a ha => ?_⟩
  simp only [List.mem_cons, List.not_mem_nil, or_false] at ha
  rcases ha with rfl | rfl | rfl | rfl | rfl | rfl | rfl
  · rw [← k1]; exact b1
  · rw [← k2]; exact b2
  · rw [← k3]; exact b3
  · rw [← k4]; exact b4
  · rw [← k5]; exact b5
  · rw [← k6]; exact b6
  · rw [← k7]; exact b7
end Go.Proofs.YtmfijfcikecglaaGreatDoor
end
section
set_option linter.unusedVariables false
set_option linter.unusedSimpArgs false
namespace Go.Proofs.YtmfijfcikecglaaGreatDoor
open Go Go.RowKit Go.Proofs.YtmfijfcikecglaaGreatDoorW.PrintWords

def LikeOK (x : JV) : Prop := ∀ (y : JV) (w : World) (cs cs' : List Value), kV.K w x cs → kV.K w y cs' →
  Calls Tryz.prog 22 #[.agg cs.toArray, .agg cs'.toArray] w fun e w' => ∃ b : Bool, e = .returned (.bool b) ∧ (b = true ↔ x = y) ∧ Below w.heap.size w w'

theorem bytes_beq_no {a b : ByteArray} (h : a ≠ b) : (a.toList == b.toList) = false := by rw [bytes_beq, decide_eq_false h]
theorem bytes_bne {a b : ByteArray} (h : a ≠ b) : (a.toList != b.toList) = true := by
  show (!(a.toList == b.toList)) = true
  rw [bytes_beq_no h]; rfl

theorem bytes_tne {a b : ByteArray} (h : a ≠ b) : ¬ (a.toList = b.toList) := by
  intro e
  have := bytes_beq_no h
  rw [e] at this
  simp at this
set_option maxRecDepth 100000 in
set_option maxHeartbeats 8000000 in
/-- Values whose heads differ. -/
theorem like_no (w : World) (k k' : Int) (t ng t' ng' : Bool) (ds tx ds' tx' : ByteArray) (ex ex' : Int) (A B A' B' : Option Addr) (n c m d n' c' m' d' : Nat)
    (h : ¬ (k = k' ∧ t = t' ∧ ng = ng' ∧ ds = ds' ∧ ex = ex' ∧ tx = tx' ∧ n = n' ∧ m = m')) :
    Calls Tryz.prog 22 #[.agg #[.int .i64 k, .bool t, .bool ng, .string ds, .int .i64 ex, .string tx, .slice A n c, .slice B m d], .agg #[.int .i64 k', .bool t', .bool ng', .string ds', .int .i64 ex', .string tx', .slice A' n' c', .slice B' m' d']] w fun e w' => e = .returned (.bool false) ∧ Below w.heap.size w w' := by
  have hB0 := ((Below.refl _ w).alloc (Nat.le_refl _) (.cells #[.int .i64 k, .bool t, .bool ng, .string ds, .int .i64 ex, .string tx, .slice A n c, .slice B m d] 27)).alloc (by simp) (.cells #[.int .i64 k', .bool t', .bool ng', .string ds', .int .i64 ex', .string tx', .slice A' n' c', .slice B' m' d'] 27)
  by_cases hk : k = k'
  · subst hk
    by_cases ht : t = t'
    · subst ht
      by_cases hng : ng = ng'
      · subst hng
        by_cases hds : ds = ds'
        · subst hds
          by_cases hex : ex = ex'
          · subst hex
            by_cases htx : tx = tx'
            · subst htx
              by_cases hn : n = n'
              · subst hn
                have hm : m ≠ m' := fun e => h ⟨rfl, rfl, rfl, rfl, rfl, rfl, rfl, e⟩
                have b1 : ((m : Int) != (m' : Int)) = true := by simp; omega
                go_enter Tryz.func22, Tryz.ntmps22
                go_wp2_with fail
                all_goals go_ret
                all_goals exact ⟨rfl, ((Below.refl _ w).alloc (Nat.le_refl _) _).alloc (by simp) _⟩
              · have b1 : ((n : Int) != (n' : Int)) = true := by simp; omega
                go_enter Tryz.func22, Tryz.ntmps22
                go_wp2_with fail
                all_goals go_ret
                all_goals exact ⟨rfl, ((Below.refl _ w).alloc (Nat.le_refl _) _).alloc (by simp) _⟩
            · have b1 := bytes_bne htx
              have b2 := bytes_tne htx
              go_enter Tryz.func22, Tryz.ntmps22
              go_wp2_with fail
              all_goals go_ret
              all_goals exact ⟨rfl, ((Below.refl _ w).alloc (Nat.le_refl _) _).alloc (by simp) _⟩
          · have b1 : (ex == ex') = false := by simpa using hex
            go_enter Tryz.func22, Tryz.ntmps22
            go_wp2_with fail
            all_goals go_ret
            all_goals exact ⟨rfl, ((Below.refl _ w).alloc (Nat.le_refl _) _).alloc (by simp) _⟩
        · have b1 := bytes_beq_no hds
          go_enter Tryz.func22, Tryz.ntmps22
          go_wp2_with fail
          all_goals go_ret
          all_goals exact ⟨rfl, ((Below.refl _ w).alloc (Nat.le_refl _) _).alloc (by simp) _⟩
      · have b1 : (ng == ng') = false := by simpa using hng
        go_enter Tryz.func22, Tryz.ntmps22
        go_wp2_with fail
        all_goals go_ret
        all_goals exact ⟨rfl, ((Below.refl _ w).alloc (Nat.le_refl _) _).alloc (by simp) _⟩
    · have b1 : (t != t') = true := by simpa using ht
      go_enter Tryz.func22, Tryz.ntmps22
      go_wp2_with fail
      all_goals go_ret
      all_goals exact ⟨rfl, ((Below.refl _ w).alloc (Nat.le_refl _) _).alloc (by simp) _⟩
  · have b1 : (k != k') = true := by simpa using hk
    go_enter Tryz.func22, Tryz.ntmps22
    go_wp2_with fail
    all_goals go_ret
    all_goals exact ⟨rfl, ((Below.refl _ w).alloc (Nat.le_refl _) _).alloc (by simp) _⟩

end Go.Proofs.YtmfijfcikecglaaGreatDoor
end
section
set_option linter.unusedVariables false
set_option linter.unusedSimpArgs false
namespace Go.Proofs.YtmfijfcikecglaaGreatDoor
open Go Go.RowKit Go.Proofs.YtmfijfcikecglaaGreatDoorW.PrintWords

set_option maxRecDepth 100000 in
set_option maxHeartbeats 8000000 in
/-- Values whose heads are one. -/
theorem like_go (w : World) (k : Int) (t ng : Bool) (ds tx : ByteArray) (ex : Int) (A B A' B' : Option Addr) (n m c d c' d' : Nat) (l l' : List JV) (f f' : List JF)
    (hcl : n ≤ c) (hcl' : n ≤ c') (hcf : m ≤ d) (hcf' : m ≤ d')
    (hCl : kV.C w A n l) (hCl' : kV.C w A' n l') (hCf : kF.C w B m f) (hCf' : kF.C w B' m f') (hl : ∀ y ∈ l, LikeOK y) (hf : ∀ g ∈ f, LikeOK g.value) :
    Calls Tryz.prog 22 #[.agg #[.int .i64 k, .bool t, .bool ng, .string ds, .int .i64 ex, .string tx, .slice A n c, .slice B m d], .agg #[.int .i64 k, .bool t, .bool ng, .string ds, .int .i64 ex, .string tx, .slice A' n c', .slice B' m d']] w fun e w' => ∃ b : Bool, e = .returned (.bool b) ∧ (b = true ↔ l = l' ∧ f = f') ∧ Below w.heap.size w w' := by
  have hmxl := hCl.2.1
  have hmxf := hCf.2.1
  have hnl := Aside0.mk hCl.1
  have hnl' := Aside0.mk hCl'.1
  have hnf := Aside0.mk hCf.1
  have hnf' := Aside0.mk hCf'.1
  obtain ⟨W0, hW0⟩ : ∃ W0, (w.alloc (.cells #[.int .i64 k, .bool t, .bool ng, .string ds, .int .i64 ex, .string tx, .slice A n c, .slice B m d] 27)).alloc (.cells #[.int .i64 k, .bool t, .bool ng, .string ds, .int .i64 ex, .string tx, .slice A' n c', .slice B' m d'] 27) = W0 := ⟨_, rfl⟩
  have hB0 : Below w.heap.size w W0 := by rw [← hW0]; exact ((Below.refl _ w).alloc (Nat.le_refl _) _).alloc (by simp) _
  have hk : W0.heap[w.heap.size]? = some (.cells #[.int .i64 k, .bool t, .bool ng, .string ds, .int .i64 ex, .string tx, .slice A n c, .slice B m d] 27 (0, 0)) := by
    rw [← hW0]; exact (heap_alloc_old _ _ (by simp)).trans (heap_alloc_new w _)
  have hj : W0.heap[w.heap.size + 1]? = some (.cells #[.int .i64 k, .bool t, .bool ng, .string ds, .int .i64 ex, .string tx, .slice A' n c', .slice B' m d'] 27 (0, 0)) := by
    rw [← hW0]
    have := heap_alloc_new (w.alloc (.cells #[.int .i64 k, .bool t, .bool ng, .string ds, .int .i64 ex, .string tx, .slice A n c, .slice B m d] 27)) (.cells #[.int .i64 k, .bool t, .bool ng, .string ds, .int .i64 ex, .string tx, .slice A' n c', .slice B' m d'] 27)
    simpa using this
  have hc0 := cellAll hk
  have hd0 := cellAll hj
  have hCl0 := Kd.C_below hCl hB0
  have hCl0' := Kd.C_below hCl' hB0
  have hCf0 := Kd.C_below hCf hB0
  have hCf0' := Kd.C_below hCf' hB0
  clear hCl hCl' hCf hCf'
  replace hk := Aside0.mk hk
  replace hj := Aside0.mk hj
  replace hB0 := Aside0.mk hB0
  go_enter Tryz.func22, Tryz.ntmps22
  go_wp2_with fail
  go_loopw [6] (fun i wr => ∃ j : Nat, i = .int .i64 j ∧ j ≤ n ∧ Aside0 (l.take j = l'.take j) ∧ Below W0.heap.size W0 wr) (fun i _ => n - (intOf i).toNat)
  case atStart => exact ⟨0, rfl, Nat.zero_le _, ⟨rfl⟩, Below.refl _ _⟩
  case round =>
    obtain ⟨j, rfl, hjl, hT, hB⟩ := hrel
    have hbr := (hB.block w.heap.size (blk_lt hk.out)).trans hk.out
    have hcr := cellAll hbr
    have hbr2 := (hB.block (w.heap.size + 1) (blk_lt hj.out)).trans hj.out
    have hdr := cellAll hbr2
    replace hbr := Aside0.mk hbr
    replace hbr2 := Aside0.mk hbr2
    clear hc0 hd0
    by_cases hlt : j < n
    · obtain ⟨ad, x, A6, c6, A7, c7, rfl, hx, hcs, l6, g6, l7, g7⟩ := at_V (Kd.C_below hCl0 hB) j hlt
      obtain ⟨ad', x', A6', c6', A7', c7', rfl, hx', hcs', l6', g6', l7', g7'⟩ := at_V (Kd.C_below hCl0' hB) j hlt
      have hK := kV_mkK l6 g6 l7 g7
      have hK' := kV_mkK l6' g6' l7' g7'
      unfold JV.cells at hcs hK hcs' hK'
      obtain ⟨q0, q1, q2, q3, q4, q5, q6, q7, _⟩ := hcs
      obtain ⟨p0, p1, p2, p3, p4, p5, p6, p7, _⟩ := hcs'
      have cL := hl x (List.mem_of_getElem? hx) x' wr.drew _ _ (kV.K_below (Below.refl _ wr).drew hK) (kV.K_below (Below.refl _ wr).drew hK')
      have hsn : Aside0 (x = x' → l.take (j + 1) = l'.take (j + 1)) := ⟨fun e => by rw [List.take_add_one, List.take_add_one, hx, hx', hT.out, e]⟩
      have hsx : Aside0 (l = l' → x = x') := ⟨fun e => by rw [e, hx'] at hx; injection hx with hx; exact hx.symm⟩
      replace hx := Aside0.mk hx
      replace hx' := Aside0.mk hx'
      clear hK hK'
      go_wp2_with fail
      go_still_tail 10, (by kernel_rfl)
      change wpList _ _ _ _ _ wr.drew
      go_wp2_with (go_at_call 22; refine cL.mono ?_; rintro e w1 ⟨b, rfl, hbx, hb4⟩)
      all_goals (have hb5 := (Below.refl wr.heap.size wr).drew.trans hb4)
      all_goals (have hB6 := hB.trans (hb5.mono hB.size))
      all_goals (first
        | (have hbf : b = false := (by have hh : (!b) = true := (by assumption); simpa using hh)
           go_ret
           exact ⟨false, rfl, ⟨fun h => (by cases h), fun h => absurd (hbx.2 (hsx.out h.1)) (by rw [hbf]; simp)⟩, hB0.out.trans (hB6.mono hB0.out.size)⟩)
        | (have hbt : b = true := (by have hh : (!b) = false := (by assumption); simpa using hh)
           refine ⟨⟨j + 1, by go_num, by omega, ⟨hsn.out (hbx.1 hbt)⟩, hB6⟩, ?_⟩
           simp [intOf]; omega))
    · obtain rfl : j = n := by omega
      have hlt2 : decide ((j : Int) < (j : Int)) = false := by simp
      have hTl : Aside0 (l = l') := ⟨by have := hT.out; rw [List.take_of_length_le (by rw [hnl.out]; exact Nat.le_refl _), List.take_of_length_le (by rw [hnl'.out]; exact Nat.le_refl _)] at this; exact this⟩
      go_wp2_with fail
      clear hT
      go_loopw [8] (fun i wr2 => ∃ q : Nat, i = .int .i64 q ∧ q ≤ m ∧ Aside0 (f.take q = f'.take q) ∧ Below W0.heap.size W0 wr2) (fun i _ => m - (intOf i).toNat)
      case atStart => exact ⟨0, rfl, Nat.zero_le _, ⟨rfl⟩, hB⟩
      case round =>
        obtain ⟨q, rfl, hqm, hT, hB2⟩ := hrel
        have hbr3 := (hB2.block w.heap.size (blk_lt hk.out)).trans hk.out
        have hcr3 := cellAll hbr3
        have hbr4 := (hB2.block (w.heap.size + 1) (blk_lt hj.out)).trans hj.out
        have hdr4 := cellAll hbr4
        replace hbr3 := Aside0.mk hbr3
        replace hbr4 := Aside0.mk hbr4
        clear hcr hdr
        by_cases hlt3 : q < m
        · obtain ⟨ad, x, A6, c6, A7, c7, rfl, hx, hcs, l6, g6, l7, g7⟩ := at_F (Kd.C_below hCf0 hB2) q hlt3
          obtain ⟨ad', x', A6', c6', A7', c7', rfl, hx', hcs', l6', g6', l7', g7'⟩ := at_F (Kd.C_below hCf0' hB2) q hlt3
          have hK := kV_mkK l6 g6 l7 g7
          have hK' := kV_mkK l6' g6' l7' g7'
          unfold JV.cells at hcs hK hcs' hK'
          have cL := hf x (List.mem_of_getElem? hx) x'.value wr.drew _ _ (kV.K_below (Below.refl _ wr).drew hK) (kV.K_below (Below.refl _ wr).drew hK')
          have hfe : Aside0 (x.name = x'.name → x.value = x'.value → x = x') := ⟨fun e1 e2 => by
            obtain ⟨xn, xv⟩ := x
            obtain ⟨xn', xv'⟩ := x'
            simp only [JF.name, JF.value] at e1 e2
            rw [e1, e2]⟩
          have hsn : Aside0 (x = x' → f.take (q + 1) = f'.take (q + 1)) := ⟨fun e => by rw [List.take_add_one, List.take_add_one, hx, hx', hT.out, e]⟩
          have hsx : Aside0 (f = f' → x = x') := ⟨fun e => by rw [e, hx'] at hx; injection hx with hx; exact hx.symm⟩
          have hel := Aside0.mk hcs
          have hel' := Aside0.mk hcs'
          obtain ⟨q0, q1, q2, q3, q4, q5, q6, q7, q8, _⟩ := hcs
          obtain ⟨p0, p1, p2, p3, p4, p5, p6, p7, p8, _⟩ := hcs'
          replace hx := Aside0.mk hx
          replace hx' := Aside0.mk hx'
          clear hK hK'
          go_wp2_with fail
          go_still_tail 12, (by kernel_rfl)
          change wpList _ _ _ _ _ wr.drew
          go_wp2_with (go_at_call 22; refine cL.mono ?_; rintro e w1 ⟨b, rfl, hbx, hb4⟩; have hb5 := (Below.refl wr.heap.size wr).drew.trans hb4; have hB6 := hB2.trans (hb5.mono hB2.size); have hcr5 := cellAll ((hB6.block w.heap.size (blk_lt hk.out)).trans hk.out); have hdr5 := cellAll ((hB6.block (w.heap.size + 1) (blk_lt hj.out)).trans hj.out); have hn5 := pw_cell_below hb5 q0; have hn5' := pw_cell_below hb5 p0; clear hcr3 hdr4 q0 p0)
          cases b with
          | false =>
            go_quiet (fail)
            go_wp2_with fail
            go_ret
            exact ⟨false, rfl, ⟨fun h => (by cases h), fun h => absurd (hbx.2 (by rw [hsx.out h.2])) (by simp)⟩, pw_below_drewN (hB0.out.trans (hB6.mono hB0.out.size)) _⟩
          | true =>
            by_cases hnm : x.name = x'.name
            · rw [hnm] at hn5
              go_quiet (fail)
              go_wp2_with fail
              refine ⟨⟨q + 1, by go_num, by omega, ⟨hsn.out (hfe.out hnm (hbx.1 rfl))⟩, pw_below_drewN hB6 _⟩, ?_⟩
              simp [intOf]; omega
            · have b1 := bytes_bne hnm
              have b2 := bytes_tne hnm
              have b3 := bytes_beq_no hnm
              go_quiet (fail)
              go_wp2_with fail
              go_ret
              have hno : ¬ (f = f') := fun h => hnm (by rw [hsx.out h])
              exact .inl ⟨rfl, fun _ => hno, pw_below_drewN (hB0.out.trans (hB6.mono hB0.out.size)) _⟩
        · obtain rfl : q = m := by omega
          have hlt5 : decide ((q : Int) < (q : Int)) = false := by simp
          have hTf : Aside0 (f = f') := ⟨by have := hT.out; rw [List.take_of_length_le (by rw [hnf.out]; exact Nat.le_refl _), List.take_of_length_le (by rw [hnf'.out]; exact Nat.le_refl _)] at this; exact this⟩
          go_wp2_with fail
          go_ret
          exact ⟨true, rfl, ⟨fun _ => ⟨hTl.out, hTf.out⟩, fun _ => rfl⟩, hB0.out.trans (hB2.mono hB0.out.size)⟩

theorem like_step (x : JV) (hl : ∀ y ∈ x.list, LikeOK y) (hf : ∀ g ∈ x.fields, LikeOK g.value) : LikeOK x := by
  intro y w cs cs' hK hK'
  obtain ⟨A, c, B, d, rfl, hV⟩ := VC.of hK
  obtain ⟨A', c', B', d', rfl, hV'⟩ := VC.of hK'
  obtain ⟨k, t, ng, ds, ex, tx, l, f⟩ := x
  obtain ⟨k', t', ng', ds', ex', tx', l', f'⟩ := y
  obtain ⟨_, hlc, hCl, hfc, hCf⟩ := hV
  obtain ⟨_, hlc', hCl', hfc', hCf'⟩ := hV'
  unfold JV.cells
  simp only [JV.kind, JV.truth, JV.neg, JV.digits, JV.exp, JV.text, JV.list, JV.fields] at *
  by_cases h : k = k' ∧ t = t' ∧ ng = ng' ∧ ds = ds' ∧ ex = ex' ∧ tx = tx' ∧ l.length = l'.length ∧ f.length = f'.length
  · obtain ⟨rfl, rfl, rfl, rfl, rfl, rfl, h1, h2⟩ := h
    rw [← h1] at hlc' hCl' ⊢
    rw [← h2] at hfc' hCf' ⊢
    refine (like_go w k t ng ds tx ex A B A' B' l.length f.length c d c' d' l l' f f' hlc hlc' hfc hfc' hCl hCl' hCf hCf' hl hf).mono ?_
    rintro e w' ⟨b, rfl, hb, hB⟩
    refine ⟨b, rfl, hb.trans ⟨fun h => by rw [h.1, h.2], fun h => ?_⟩, hB⟩
    injection h with _ _ _ _ _ _ h3 h4
    exact ⟨h3, h4⟩
  · refine (like_no w k k' t ng t' ng' ds tx ds' tx' ex ex' A B A' B' l.length c f.length d l'.length c' f'.length d' h).mono ?_
    rintro e w' ⟨rfl, hB⟩
    refine ⟨false, rfl, ⟨fun h => (by cases h), fun e => absurd ?_ h⟩, hB⟩
    injection e with e1 e2 e3 e4 e5 e6 e7 e8
    exact ⟨e1, e2, e3, e4, e5, e6, by rw [e7], by rw [e8]⟩
theorem like_all : ∀ (n : Nat) (x : JV), x.wt ≤ n → LikeOK x
  | 0, .mk k t ng ds ex tx l f, h => by rw [JV.wt] at h; omega
  | n + 1, .mk k t ng ds ex tx l f, h => by
    rw [JV.wt] at h
    exact like_step _ (fun y hy => like_all n y (by have := wt_memL hy; simp only [JV.list] at this; omega)) (fun g hg => like_all n _ (by have := wt_memF hg; simp only [JV.fields] at this; omega))
/-- **voyageref02.Like**: are they one? -/
theorem like_any (x : JV) : LikeOK x := like_all _ x (Nat.le_refl _)
end Go.Proofs.YtmfijfcikecglaaGreatDoor
end
section
set_option linter.unusedVariables false
set_option linter.unusedSimpArgs false
namespace Go.Proofs.YtmfijfcikecglaaGreatDoor
open Go Go.RowKit Go.Proofs.YtmfijfcikecglaaGreatDoorW.PrintWords

theorem parse1_any (E : ErrV) (w : World) (hP : PEnv E w) : Calls Tryz.prog 29 #[.string ⟨#[32, 123, 34, 98, 34, 32, 58, 32, 91, 49, 46, 53, 48, 44, 32, 45, 48, 93, 44, 32, 34, 97, 34, 58, 34, 92, 117, 48, 48, 101, 57, 92, 47, 34, 125]⟩] w fun e w' => ParseGives E w (.ok val1 35) e w' := by
  have h := parse_any E text1 w (by decide) hP
  rw [parse1] at h
  exact h
theorem parse2_any (E : ErrV) (w : World) (hP : PEnv E w) : Calls Tryz.prog 29 #[.string ⟨#[91, 49, 44, 93]⟩] w fun e w' => ∃ v, e = .returned (.tuple #[.agg nulCells.toArray, v]) ∧ IsFault v 3 (ev E.due) w' ∧ Below w.heap.size w w' := by
  have h := parse_any E text2 w (by decide) hP
  rw [parse2] at h
  exact h
theorem print1_any (x : JV) (w : World) (cs : List Value) (hK : kV.K w x cs) (hF : Facts w) (hwt : x.wt ≤ 1073741824) (hin : x.ints) (hp : (⟨x.print.toArray⟩ : ByteArray) = print1) :
    Calls Tryz.prog 12 #[.agg cs.toArray] w fun e w' => e = .returned (.string ⟨#[123, 34, 97, 34, 58, 34, 195, 169, 47, 34, 44, 34, 98, 34, 58, 91, 49, 53, 101, 45, 49, 44, 48, 93, 125]⟩) ∧ Below w.heap.size w w' := by
  have h := print_any x w cs hK hF hwt hin
  rw [hp] at h
  exact h
theorem ints_num0 : num0.ints := by
  unfold num0
  rw [JV.ints, JV.intsL, JV.intsF]
  exact ⟨by omega, by omega, trivial, trivial⟩
theorem same0_any (x : JV) (w : World) (cs : List Value) (hK : kV.K w x cs) (hF : Facts w) (hwt : x.wt ≤ 1073741824) (hin : x.ints) (hp : x.print = num0.print) :
    Calls Tryz.prog 26 #[.agg cs.toArray, .agg #[.int .i64 2, .bool false, .bool false, .string ⟨#[]⟩, .int .i64 0, .string ⟨#[]⟩, .slice none 0 0, .slice none 0 0]] w fun e w' => e = .returned (.bool true) ∧ Below w.heap.size w w' := by
  have hM : kV.M w w.heap.size (fun _ => True) num0 (num0.cells (.slice none 0 0) (.slice none 0 0)) := kV_mkM (R_nilV _ _ _) (R_nilF _ _ _)
  have h := same_any x num0 w cs _ hK (kV.K_of_M hM) hF hwt hin (by decide +kernel) ints_num0
  rw [decide_eq_true hp] at h
  exact h
def odd9 : JV := .mk 9 false false ⟨#[]⟩ 0 ⟨#[120]⟩ [] []
theorem norm_odd9 : odd9.norm = JV.nul := by kernel_rfl
theorem norm9_any (w : World) (hF : Facts w) : Calls Tryz.prog 15 #[.agg #[.int .i64 9, .bool false, .bool false, .string ⟨#[]⟩, .int .i64 0, .string ⟨#[120]⟩, .slice none 0 0, .slice none 0 0]] w fun e w' => ∃ A c B d, e = .returned (.agg #[.int .i64 0, .bool false, .bool false, .string ⟨#[]⟩, .int .i64 0, .string ⟨#[]⟩, .slice A 0 c, .slice B 0 d]) ∧ Below w.heap.size w w' := by
  have hM : kV.M w w.heap.size (fun _ => True) odd9 (odd9.cells (.slice none 0 0) (.slice none 0 0)) := kV_mkM (R_nilV _ _ _) (R_nilF _ _ _)
  have h := norm_any odd9 w _ (kV.K_of_M hM) hF (by decide +kernel) (by unfold odd9; rw [JV.ints, JV.intsL, JV.intsF]; exact ⟨by omega, by omega, trivial, trivial⟩)
  rw [norm_odd9] at h
  refine h.mono ?_
  rintro e w' ⟨cs, rfl, hM2, hb⟩
  obtain ⟨l, f, rfl, hl, hf⟩ := kV_openM hM2
  obtain ⟨A, c, rfl⟩ := Kd.R_slice hl
  obtain ⟨B, d, rfl⟩ := Kd.R_slice hf
  exact ⟨A, c, B, d, rfl, hb⟩
theorem field0 (k : Int) (t ng : Bool) (ds tx : ByteArray) (ex : Int) (A B : Option Addr) (n c m d : Nat) (W : World) : (Instr.field 27 (.agg #[.int .i64 k, .bool t, .bool ng, .string ds, .int .i64 ex, .string tx, .slice A n c, .slice B m d]) 0).run Tryz.prog W = .ok (.int .i64 k) W := by kernel_rfl
theorem ints_get1 : (JV.mk 4 false false ⟨#[]⟩ 0 ⟨#[]⟩ [num15, num0] []).ints := by
  unfold num15 num0
  simp [JV.ints, JV.intsL, JV.intsF]
theorem ints_val1 : val1.ints := by
  unfold val1 num15 num0
  simp [JV.ints, JV.intsL, JV.intsF]

set_option maxRecDepth 100000 in
set_option maxHeartbeats 8000000 in
/-- **voyagelaw02.awake.** -/
theorem awake_any (E : ErrV) (w : World) (hP : PEnv E w) : Calls Tryz.prog 10 #[] w fun e w' => e = .returned (.bool true) ∧ Below w.heap.size w w' := by
  have cP1 := Aside0.mk (parse1_any E w hP)
  have hwt1 := wt1
  have hi1 := ints_val1
  have hpr := Aside0.mk printed1
  have hdp := Aside0.mk deep1
  have hget := Aside0.mk get1
  generalize val1 = x1 at *
  have hwt7 : (JV.mk 4 false false ⟨#[]⟩ 0 ⟨#[]⟩ [num15, num0] []).wt ≤ 100 := by decide +kernel
  have hi7 := ints_get1
  have hat := Aside0.mk at1
  generalize (JV.mk 4 false false ⟨#[]⟩ 0 ⟨#[]⟩ [num15, num0] []) = x7 at *
  have hwt9 : num0.wt ≤ 100 := by decide +kernel
  have hi9 := ints_num0
  obtain ⟨x9, hx9⟩ : ∃ x9, num0 = x9 := ⟨_, rfl⟩
  have hsm : Aside0 (x9.print = num0.print) := ⟨by rw [hx9]⟩
  rw [hx9] at hat hwt9 hi9
  clear hx9
  replace hP := Aside0.mk hP
  have heq := fun W => eq_err E.due W
  have hfld := field0
  go_enter Tryz.func10, Tryz.ntmps10
  go_wp2_with (first
    | (go_at_call 15; refine cN.out.mono ?_; clear cN; rintro e w9 ⟨An, cn, Bn, dn, rfl, hb9⟩; have hL9 := Aside0.mk (hL8.out.trans (hb9.mono hL8.out.size)))
    | (go_at_call 26; refine cS.out.mono ?_; clear cS; rintro e w8 ⟨rfl, hb8⟩; have hL8 := Aside0.mk (hL7.out.trans (hb8.mono hL7.out.size)); have cN := Aside0.mk (norm9_any w8 (hP.out.below hL8.out).facts))
    | (go_at_call 18; refine cD.out.mono ?_; clear cD; rintro e w7 ⟨rfl, hb7⟩; rw [hdp.out]; have hL7 := Aside0.mk (hL6.out.trans (hb7.mono hL6.out.size)); have hj7 := Aside0.mk ((hb7.block _ (blk_lt hj6.out)).trans hj6.out); have hc7 := cellAll hj7.out; have hd7 := (hP.out.below hL7.out).errs.due_cell; have hKj := Aside0.mk (kV.K_below hb7 hKi.out); have cS := Aside0.mk (same0_any x9 _ _ hKj.out (hP.out.below hL7.out).facts (by omega) hi9 hsm.out); clear hc6)
    | (go_at_call 12; refine cPr.out.mono ?_; clear cPr; rintro e w6 ⟨rfl, hb6⟩; have hL6 := Aside0.mk (hL5.out.trans (hb6.mono hL5.out.size)); have hk6 := Aside0.mk ((hb6.block _ (blk_lt hk5.out)).trans hk5.out); have hj6 := Aside0.mk ((hb6.block _ (blk_lt hj5.out)).trans hj5.out); have hc6 := cellAll hk6.out; have hKh := Aside0.mk (kV.K_below hb6 hKf.out); have hKi := Aside0.mk (kV.K_below hb6 hKg.out); have cD := Aside0.mk (depth_any x1 _ _ hKh.out (hP.out.below hL6.out).facts (by omega) hi1); clear hc5)
    | (go_at_call 17; refine cA.out.mono ?_; clear cA; rintro e w5 hG5; rw [hat.out] at hG5; obtain ⟨cs9, rfl, hM9, hb5⟩ := hG5; simp only at hM9; obtain ⟨l9, f9, rfl, hRl9, hRf9⟩ := kV_openM hM9; obtain ⟨A9, c9, rfl⟩ := Kd.R_slice hRl9; obtain ⟨B9, d9, rfl⟩ := Kd.R_slice hRf9; clear hRl9 hRf9; have hK9 := kV.K_of_M hM9; clear hM9; unfold JV.cells at hK9 ⊢; have hB5 := (Below.refl w5.heap.size w5).alloc (Nat.le_refl _) (.cells #[.int .i64 x9.kind, .bool x9.truth, .bool x9.neg, .string x9.digits, .int .i64 x9.exp, .string x9.text, .slice A9 x9.list.length c9, .slice B9 x9.fields.length d9] 27); have hL5 := Aside0.mk (hL4.out.trans ((hb5.trans (hB5.mono hb5.size)).mono hL4.out.size)); have hk5 := Aside0.mk ((hB5.block _ (blk_lt ((hb5.block _ (blk_lt hk4.out)).trans hk4.out))).trans ((hb5.block _ (blk_lt hk4.out)).trans hk4.out)); have hc5 := cellAll hk5.out; have hKf := Aside0.mk (kV.K_below hB5 (kV.K_below hb5 hKd.out)); have hKg := Aside0.mk (kV.K_below hB5 hK9); have hj5 := Aside0.mk (heap_alloc_new w5 (.cells #[.int .i64 x9.kind, .bool x9.truth, .bool x9.neg, .string x9.digits, .int .i64 x9.exp, .string x9.text, .slice A9 x9.list.length c9, .slice B9 x9.fields.length d9] 27)); have cPr := Aside0.mk (print1_any x1 _ _ hKf.out (hP.out.below hL5.out).facts (by omega) hi1 hpr.out); clear hB5 hK9)
    | (go_at_call 16; refine cG.out.mono ?_; clear cG; rintro e w4 hG4; rw [hget.out] at hG4; obtain ⟨cs7, rfl, hM7, hb4⟩ := hG4; simp only at hM7; obtain ⟨l7, f7, rfl, hRl7, hRf7⟩ := kV_openM hM7; obtain ⟨A7, c7, rfl⟩ := Kd.R_slice hRl7; obtain ⟨B7, d7, rfl⟩ := Kd.R_slice hRf7; clear hRl7 hRf7; have hK7 := kV.K_of_M hM7; clear hM7; unfold JV.cells at hK7 ⊢; have hB4 := (Below.refl w4.heap.size w4).alloc (Nat.le_refl _) (.cells #[.int .i64 x7.kind, .bool x7.truth, .bool x7.neg, .string x7.digits, .int .i64 x7.exp, .string x7.text, .slice A7 x7.list.length c7, .slice B7 x7.fields.length d7] 27); have hL4 := Aside0.mk (hL3.out.trans ((hb4.trans (hB4.mono hb4.size)).mono hL3.out.size)); have hk4 := Aside0.mk ((hB4.block _ (blk_lt ((hb4.block _ (blk_lt hk3.out)).trans hk3.out))).trans ((hb4.block _ (blk_lt hk3.out)).trans hk3.out)); have hKd := Aside0.mk (kV.K_below hB4 (kV.K_below hb4 hKc.out)); have hKe := Aside0.mk (kV.K_below hB4 hK7); have cA := Aside0.mk (at_any x7 1 _ _ hKe.out (hP.out.below hL4.out).facts (by omega) hi7); clear hB4 hK7 hc3)
    | (go_at_call 30; refine cPl.out.mono ?_; clear cPl; rintro e w3 ⟨rfl, hb3⟩; have hL3 := Aside0.mk (hL2.out.trans (hb3.mono hL2.out.size)); have hk3 := Aside0.mk ((hb3.block _ (blk_lt hk2.out)).trans hk2.out); have hc3 := cellAll hk3.out; have hKc := Aside0.mk (kV.K_below hb3 hKb.out); have cG := Aside0.mk (get_any x1 ⟨#[98]⟩ w3 _ hKc.out (hP.out.below hL3.out).facts (by decide) (by omega) hi1))
    | (go_at_call 29; refine cP2.out.mono ?_; clear cP2; rintro e w2 ⟨v2, rfl, hF2, hb2⟩; have hB2 := (Below.refl w2.heap.size w2).alloc (Nat.le_refl _) (.cells #[.int .i64 0, .bool false, .bool false, .string ⟨#[]⟩, .int .i64 0, .string ⟨#[]⟩, .slice none 0 0, .slice none 0 0] 27); have hL2 := Aside0.mk (hL1.out.trans ((hb2.trans (hB2.mono hb2.size)).mono hL1.out.size)); have hk2 := Aside0.mk ((hB2.block _ (blk_lt ((hb2.block _ (blk_lt hk1.out)).trans hk1.out))).trans ((hb2.block _ (blk_lt hk1.out)).trans hk1.out)); have hKb := Aside0.mk (kV.K_below hB2 (kV.K_below hb2 hKa.out)); have cPl := Aside0.mk (place_any 3 E.due v2 _ (hF2.below hB2) (hP.out.below hL2.out).et); unfold nulCells; clear hB2 hF2)
    | (go_at_call 29; refine cP1.out.mono ?_; clear cP1; rintro e w1 ⟨cs1, rfl, hM1, hb1⟩; obtain ⟨l1, f1, rfl, hRl1, hRf1⟩ := kV_openM hM1; obtain ⟨A1, c1, rfl⟩ := Kd.R_slice hRl1; obtain ⟨B1, d1, rfl⟩ := Kd.R_slice hRf1; clear hRl1 hRf1; have hK1 := kV.K_of_M hM1; clear hM1; unfold JV.cells at hK1 ⊢; have hB1 := (Below.refl w1.heap.size w1).alloc (Nat.le_refl _) (.cells #[.int .i64 x1.kind, .bool x1.truth, .bool x1.neg, .string x1.digits, .int .i64 x1.exp, .string x1.text, .slice A1 x1.list.length c1, .slice B1 x1.fields.length d1] 27); have hk1 := Aside0.mk (heap_alloc_new w1 (.cells #[.int .i64 x1.kind, .bool x1.truth, .bool x1.neg, .string x1.digits, .int .i64 x1.exp, .string x1.text, .slice A1 x1.list.length c1, .slice B1 x1.fields.length d1] 27)); have hL1 := Aside0.mk (hb1.trans (hB1.mono hb1.size)); have hKa := Aside0.mk (kV.K_below hB1 hK1); have hz1 := Aside0.mk hb1.size; have cP2 := Aside0.mk (parse2_any E _ (hP.out.below hL1.out)); clear hK1 hB1))
  go_ret
  exact ⟨rfl, hL9.out⟩
end Go.Proofs.YtmfijfcikecglaaGreatDoor
end
