/- What reads as data at api.Value is a value: from a row's reading to kV.K. From what a row lists of the package-level variables to what the contracts ask. voyagelaw02.place at a fault. voyagelaw02.code at one of the package's errors: above 0. What a row lists of the package-level variables: where the errors lie. An argument that is a slice of ints, or an int: what a row's reading says of it. There and back, plainly: a text that is told in quotes is read as it. There and back, plainly: texts; what clean gives is valid. -/
import Derived.Test.YtmfijfcikecglaaGreatDoorH20
import Derived.Deep.Strs
import Derived.Deep.Slices
import Derived.ProofKit
import Derived.SizedLaws
import Derived.Test.YtmfijfcikecglaaGreatDoorRows
import Derived.Stop.LaidErr
import Derived.Lib.LaidU8T
import Derived.LaidHandle
import Derived.Lay
import Derived.PinnedBridge
import Derived.LaidEql
import Derived.LaidLaws
import Derived.OpenShut
import Derived.Test.YtmfijfcikecglaaGreatDoorH16
import Derived.Lib.MapLaws
import Derived.Lib.ValidLaws
import Derived.Test.YtmfijfcikecglaaGreatDoorH8
section
set_option linter.unusedVariables false
set_option linter.unusedSimpArgs false
namespace Go.Proofs.YtmfijfcikecglaaGreatDoor
open Go Go.RowKit Go.Proofs.YtmfijfcikecglaaGreatDoorW.PrintWords Go.ChangeShapes Go.WideShapes

theorem cellsOf_V : Tryz.prog.cellsOf 27 = 8 := by kernel_rfl
theorem cellsOf_F : Tryz.prog.cellsOf 68 = 9 := by kernel_rfl
theorem cellsOf_D : Tryz.prog.cellsOf 23 = 3 := by kernel_rfl
theorem cellsOf_int : Tryz.prog.cellsOf 3 = 1 := by kernel_rfl
theorem cellsOf_bool : Tryz.prog.cellsOf 4 = 1 := by kernel_rfl
theorem cellsOf_str : Tryz.prog.cellsOf 9 = 1 := by kernel_rfl
theorem cellsOf_lV : Tryz.prog.cellsOf 24 = 1 := by kernel_rfl
theorem cellsOf_lF : Tryz.prog.cellsOf 25 = 1 := by kernel_rfl
instance : Inhabited JV := ⟨JV.nul⟩
instance : Inhabited JF := ⟨JF.nul⟩

section
variable {H : Type} {enc : TypeId × Value → H} {w : World} {spare : Nat → Bool} {held : Bool}
/-- No text, no row of a datum is greater than may be. -/
def Sm (t : TypeId) (d : DataW H) : Prop := ∀ n ∈ d.weights Tryz.prog t, n ≤ reachBytes
theorem weights_all {e : TypeId} : ∀ {l : List (DataW H)} {d : DataW H}, d ∈ l → ∀ n ∈ d.weights Tryz.prog e, n ∈ DataW.weightsAll Tryz.prog e l
  | x :: l, d, h, n, hn => by
    rw [DataW.weightsAll, List.mem_append]
    rcases List.mem_cons.1 h with rfl | h
    · exact .inl hn
    · exact .inr (weights_all h n hn)
theorem Sm.str {s : ByteArray} {t : TypeId} (h : Sm t (.lit (.string s.data.toList) : DataW H)) : s.size ≤ reachBytes := by
  have := h s.data.toList.length (by simp [DataW.weights])
  rw [Array.length_toList] at this
  exact this
theorem Sm.part {t : TypeId} {fs : Array Field} {ps : List (DataW H)} (hu : Tryz.prog.underlying t = some (.struct fs)) (h : Sm t (.agg ps)) {j : Nat} {f : Field} {d : DataW H} (hf : fs[j]? = some f) (hd : ps[j]? = some d) : Sm f.type d := fun n hn => by
  refine h n ?_
  rw [DataW.weights, hu]
  exact DataW.weights_mem_each (by simp [hf]) hd n hn
theorem trod_row {α : Type} [Inhabited α] {t e : TypeId} {sz fuel B : Nat} {cs : List Value} {x : DataW H × List MemPlace} (R : α → List Value → Prop) (G : α → Prop) (ht : Tryz.prog.underlying t = some (.slice e)) (hc : Tryz.prog.cellsOf e = sz) (hB : Tryz.prog.bytesOf e = B) (hB0 : 0 < B)
    (h : DataW.trod enc Tryz.prog w 0 spare held fuel t cs = some x) (hsm : Sm t x.1) (ih : ∀ n, n < fuel → ∀ cs y, DataW.trod enc Tryz.prog w 0 spare held n e cs = some y → Sm e y.1 → ∃ v, R v cs ∧ G v) :
    ∃ A len c xs, cs = [.slice A len c] ∧ len ≤ c ∧ len ≤ 140737488355328 ∧ ReadsRow R sz w A len xs ∧ xs.length = len ∧ ∀ y ∈ xs, G y := by
  rcases DataW.trod_slice ht h with ⟨rfl, _⟩ | ⟨a, len, cap, elems, rest, n, rfl, rfl, rfl, hb, hl, hm, hlen, hel, _, _⟩
  · exact ⟨none, 0, 0, [], rfl, Nat.le_refl _, Nat.zero_le _, ⟨rfl, by decide, fun h => absurd h (by decide)⟩, rfl, fun y h => nomatch h⟩
  · have hlb : len ≤ reachBytes := by
      have h1 := hsm (((elems.map (·.1)).length + (rest.map (·.1)).length) * B) (by rw [← hB]; simp [DataW.weights, ht])
      have h2 : len ≤ (elems.map (·.1)).length + (rest.map (·.1)).length := by simp; omega
      exact Nat.le_trans h2 (Nat.le_trans (Nat.le_mul_of_pos_right _ hB0) h1)
    have hmx : reachBytes ≤ 140737488355328 := by decide
    have key : ∀ i, i < len → ∃ v, G v ∧ ∃ c, c.length = sz ∧ R v c ∧ ∀ j u, c[j]? = some u → w.cell? (a.add (i * sz + j)) = some u := by
      intro i hi
      have h1 := hel i hi
      rw [List.getElem?_eq_getElem (by omega)] at h1
      obtain ⟨c, hc1, hc2⟩ := Option.bind_eq_some_iff.1 h1
      obtain ⟨v, hv, hg⟩ := ih n (by omega) _ _ hc2 (fun m hmm => hsm m (by
        rw [DataW.weights, ht]
        refine List.mem_cons_of_mem _ (List.mem_append_left _ (weights_all ?_ m hmm))
        exact List.mem_map.2 ⟨_, List.getElem_mem _, rfl⟩))
      obtain ⟨_, hcl, hcell⟩ := World.cells?_some hc1
      rw [hc] at hcl hcell
      refine ⟨v, hg, c, hcl, hv, fun j u hj => ?_⟩
      have := hcell j (by have := (List.getElem?_eq_some_iff.1 hj).1; omega)
      rw [Go.Deep.add_add, hj] at this
      exact this
    obtain ⟨V, hV⟩ := Go.Deep.choose_lt key
    refine ⟨some a, len, cap, (List.range len).map V, rfl, hl, by omega, ⟨by simp, by omega, fun _ => ⟨a, rfl, fun j p hj => ?_⟩⟩, by simp, fun y hy => ?_⟩
    · have hjl : j < len := by simpa using (List.getElem?_eq_some_iff.1 hj).1
      have : V j = p := by simpa [hjl] using hj
      subst this
      exact (hV j hjl).2
    · obtain ⟨i, hi, rfl⟩ := List.mem_map.1 hy
      exact (hV i (List.mem_range.1 hi)).1
theorem fitsL_of : ∀ {l : List JV}, (∀ y ∈ l, y.fits) → JV.fitsL l
  | [], _ => by rw [JV.fitsL]; trivial
  | x :: l, h => by rw [JV.fitsL]; exact ⟨h x (.head _), fitsL_of (fun y hy => h y (.tail _ hy))⟩
theorem fitsF_of : ∀ {l : List JF}, (∀ y ∈ l, y.name.size ≤ 140737488355328 ∧ y.value.fits) → JV.fitsF l
  | [], _ => by rw [JV.fitsF]; trivial
  | .mk nm v :: l, h => by rw [JV.fitsF]; exact ⟨(h _ (.head _)).1, (h _ (.head _)).2, fitsF_of (fun y hy => h y (.tail _ hy))⟩
theorem wf64 {k : Int} (h : (Lit.int .i64 k).wf = true) : -9223372036854775808 ≤ k ∧ k ≤ 9223372036854775807 := by
  simpa [Lit.wf, IntKind.min, IntKind.max, IntKind.signed, IntKind.bits] using h
theorem list8 {α : Type} {l : List α} (h : l.length = 8) : ∃ c0 c1 c2 c3 c4 c5 c6 c7, l = [c0, c1, c2, c3, c4, c5, c6, c7] := by
  match l, h with
  | [c0, c1, c2, c3, c4, c5, c6, c7], _ => exact ⟨c0, c1, c2, c3, c4, c5, c6, c7, rfl⟩
theorem list9 {α : Type} {l : List α} (h : l.length = 9) : ∃ c0 r, l = c0 :: r ∧ r.length = 8 := by
  match l, h with
  | c0 :: r, h => exact ⟨c0, r, rfl, by simpa using h⟩
theorem list3 {α : Type} {l : List α} (h : l.length = 3) : ∃ c0 c1 c2, l = [c0, c1, c2] := by
  match l, h with
  | [c0, c1, c2], _ => exact ⟨c0, c1, c2, rfl⟩
theorem list2 {α : Type} {l : List α} (h : l.length = 2) : ∃ c0 c1, l = [c0, c1] := by
  match l, h with
  | [c0, c1], _ => exact ⟨c0, c1, rfl⟩
theorem list6 {α : Type} {l : List α} (h : l.length = 6) : ∃ c0 c1 c2 c3 c4 c5, l = [c0, c1, c2, c3, c4, c5] := by
  match l, h with
  | [c0, c1, c2, c3, c4, c5], _ => exact ⟨c0, c1, c2, c3, c4, c5, rfl⟩
theorem bytesOf_V : Tryz.prog.bytesOf 27 = 112 := by kernel_rfl
theorem bytesOf_F : Tryz.prog.bytesOf 68 = 128 := by kernel_rfl
set_option maxRecDepth 100000 in
theorem trod_V : ∀ (fuel : Nat) (cs : List Value) (x : DataW H × List MemPlace), DataW.trod enc Tryz.prog w 0 spare held fuel 27 cs = some x → Sm 27 x.1 → ∃ v : JV, kV.K w v cs ∧ v.fits := by
  intro fuel
  induction fuel using Nat.strongRecOn with
  | ind fuel ih =>
    intro cs x h hsm
    have hmx : reachBytes ≤ 140737488355328 := by decide
    obtain ⟨ys, n, rfl, rfl, hlen, hys, hf⟩ := DataW.trod_struct Tryz.underlying27 h
    obtain ⟨c0, c1, c2, c3, c4, c5, c6, c7, rfl⟩ := list8 (hlen.trans cellsOf_V)
    obtain ⟨y0, y1, y2, y3, y4, y5, rfl⟩ := list6 hys
    have h0 := hf 0 _ rfl
    have h1 := hf 1 _ rfl
    have h2 := hf 2 _ rfl
    have h3 := hf 3 _ rfl
    have h4 := hf 4 _ rfl
    have h5 := hf 5 _ rfl
    simp [cellsOf_int, cellsOf_bool, cellsOf_D, cellsOf_str, cellsOf_lV, cellsOf_lF] at h0 h1 h2 h3 h4 h5
    have s2 := Sm.part Tryz.underlying27 hsm (j := 2) rfl rfl
    have s3 := Sm.part Tryz.underlying27 hsm (j := 3) rfl rfl
    have s4 := Sm.part Tryz.underlying27 hsm (j := 4) rfl rfl
    have s5 := Sm.part Tryz.underlying27 hsm (j := 5) rfl rfl
    obtain ⟨k, e0, _, hk⟩ := DataW.trod_int Tryz.underlying3 h0
    obtain ⟨t, e1, _⟩ := DataW.trod_bool Tryz.underlying4 h1
    obtain ⟨zs, m, _, rfl, _, hzs, hg⟩ := DataW.trod_struct Tryz.underlying23 h2
    obtain ⟨z0, z1, z2, rfl⟩ : ∃ z0 z1 z2, zs = [z0, z1, z2] := by
      exact list3 hzs
    have g0 := hg 0 _ rfl
    have g1 := hg 1 _ rfl
    have g2 := hg 2 _ rfl
    simp [cellsOf_int, cellsOf_bool, cellsOf_str] at g0 g1 g2
    have s21 := Sm.part Tryz.underlying23 s2 (j := 1) rfl rfl
    obtain ⟨ng, e2, _⟩ := DataW.trod_bool Tryz.underlying4 g0
    obtain ⟨ds, e3, rfl, hds⟩ := DataW.trod_string Tryz.underlying9 g1
    obtain ⟨ex, e4, _, hex⟩ := DataW.trod_int Tryz.underlying3 g2
    obtain ⟨tx, e5, rfl, htx⟩ := DataW.trod_string Tryz.underlying9 h3
    have z1 := Sm.str s21
    have z3 := Sm.str s3
    obtain ⟨A, ll, cl, xs, e6, hlc, hlm, hrl, hxl, hxs⟩ := trod_row (kV.K w) JV.fits Tryz.underlying24 cellsOf_V bytesOf_V (by decide) h4 s4 (fun m hm cs y hy hs => ih m (by omega) cs y hy hs)
    obtain ⟨B, lf, cf, fs, e7, hfc, hfm, hrf, hfl, hfs⟩ := trod_row (kF.K w) (fun f : JF => f.name.size ≤ 140737488355328 ∧ f.value.fits) Tryz.underlying25 cellsOf_F bytesOf_F (by decide) h5 s5 (fun m hm cs y hy hs => by
      obtain ⟨us, p, rfl, rfl, hl9, hus, hg⟩ := DataW.trod_struct Tryz.underlying68 hy
      obtain ⟨q0, r, rfl, hr8⟩ := list9 (hl9.trans cellsOf_F)
      obtain ⟨u0, u1, rfl⟩ : ∃ u0 u1, us = [u0, u1] := by
        exact list2 hus
      have p0 := hg 0 _ rfl
      have p1 := hg 1 _ rfl
      simp [cellsOf_str, cellsOf_V] at p0 p1
      rw [List.take_of_length_le (by omega)] at p1
      have t0 := Sm.part Tryz.underlying68 hs (j := 0) rfl rfl
      have t1 := Sm.part Tryz.underlying68 hs (j := 1) rfl rfl
      obtain ⟨nm, e8, rfl, hnm⟩ := DataW.trod_string Tryz.underlying9 p0
      have hnz := Sm.str t0
      obtain ⟨v, hv, hvf⟩ := ih p (by omega) _ _ p1 t1
      injection e8 with e8
      subst e8
      exact ⟨.mk nm v, ⟨[.string nm], r, rfl, rfl, hv⟩, by show nm.size ≤ _; omega, hvf⟩)
    injection e0 with e0
    injection e1 with e1
    injection e2 with e2
    injection e3 with e3
    injection e4 with e4
    injection e5 with e5
    injection e6 with e6
    injection e7 with e7
    subst e0 e1 e2 e3 e4 e5 e6 e7 hxl hfl
    refine ⟨.mk k t ng ds ex tx xs fs, kV_mkK (x := .mk k t ng ds ex tx xs fs) hlc hrl hfc hrf, ?_⟩
    rw [JV.fits]
    exact ⟨wf64 hk, wf64 hex, by omega, by omega, hlm, hfm, fitsL_of hxs, fitsF_of hfs⟩
theorem trod_lt_V {v : Value} {d : DataW H} {ps : List MemPlace} (h : DataW.Trod enc Tryz.prog w 0 spare held 27 v d ps) : ∀ x ∈ ps, x.block < w.heap.size := by
  obtain ⟨m, hm⟩ := h
  exact DataW.trod_lt m _ _ _ hm
set_option maxRecDepth 100000 in
/-- An argument of type api.Value. -/
theorem arg_V {r : Reach} {b0 : Nat} {v : Value} {d : DataW H} {ps : List MemPlace} (hv : Value.okWide Tryz.prog w r b0 27 v) (h : DataW.Trod enc Tryz.prog w 0 spare held 27 v d ps) (hs : Sm 27 d) :
    ∃ (cs : List Value) (x : JV), v = .agg cs.toArray ∧ kV.K w x cs ∧ x.fits := by
  obtain ⟨cs, rfl, hsz⟩ := okWide_struct Tryz.underlying27 hv
  obtain ⟨fuel, hf⟩ := h
  obtain ⟨x, hx, hfx⟩ := trod_V fuel _ _ hf hs
  exact ⟨_, x, by simp [Value.cells], hx, hfx⟩
end
end Go.Proofs.YtmfijfcikecglaaGreatDoor
end
section
set_option linter.unusedVariables false
set_option linter.unusedSimpArgs false
namespace Go.Proofs.YtmfijfcikecglaaGreatDoor
open Go Go.RowKit Go.Shelf Go.Lib

theorem star_es : "*errors.errorString" = "*" ++ "errors.errorString" := by decide +kernel
theorem row_es (u : TypeId) (h : Tryz.prog.typeName? 3 u = some "*errors.errorString") : u = 207 :=
  typeName_ptr_named (nm := "errors.errorString") (by rw [← star_es]; kernel_rfl) (by kernel_rfl) (by decide) u (by rw [← star_es]; exact h)
theorem sentinel_mem {W : World} {n : String} {text : List UInt8} {g : Nat} (hg : Tryz.prog.globalNamed n = some g) (ht : (Tryz.prog.globals[g]?).map (·.type) = some 46) : ∀ {l : List (String × DataW Unit)}, laidMet Tryz.prog l W → (n, DataW.iface "*errors.errorString" (.ptr (.agg [.lit (.string text)]))) ∈ l → ∃ a, W.var? Tryz.prog n = some #[ev a]
  | x :: r, h, hm => by
    rcases List.mem_cons.1 hm with rfl | hm
    · obtain ⟨a, s, hv, _⟩ := laid_sentinel h hg ht Tryz.underlying46 row_es Tryz.underlying207 Tryz.underlying209 rfl rfl Tryz.underlying9 (by kernel_rfl) cellsOf_str
      exact ⟨a, hv⟩
    · exact sentinel_mem hg ht h.tail hm
theorem u8x : U8Extra Tryz.prog Tryz.lays196_ren := ⟨by kernel_rfl, by kernel_rfl, by kernel_rfl, by kernel_rfl, by kernel_rfl, by kernel_rfl, by kernel_rfl⟩
theorem oneRowError : ((List.range Tryz.prog.types.size).filter fun t => Tryz.prog.rowNamed t [101, 114, 114, 111, 114]) = [46] := by kernel_rfl
theorem rtypeRow : (Tryz.prog.cutTypes.find? (·.1 == "internal/reflectlite.rtype")).map (·.2) = some 144 := by kernel_rfl
theorem handle_mem {W : World} {hs : List (String × DataW Unit)} (hh : handlesMet Tryz.prog hs W) (hm : ("errors.errorType", Rows.laid_errors_errorType) ∈ hs) : W.cell? ⟨7, 0, none⟩ = some (.iface 144 (.agg #[typeHandle Tryz.prog 46])) := by
  obtain ⟨name, u, ty, e1, e2, e3, e4, e5⟩ := hh _ hm
  have en : name = [101, 114, 114, 111, 114] := (Option.some.inj e1).symm
  subst en
  obtain rfl := Option.some.inj (rtypeRow.symm.trans e2)
  have hm2 : ty ∈ (List.range Tryz.prog.types.size).filter fun t => Tryz.prog.rowNamed t [101, 114, 114, 111, 114] := List.mem_filter.2 ⟨List.mem_range.2 e3, e4⟩
  rw [oneRowError] at hm2
  obtain rfl := List.mem_singleton.1 hm2
  simpa using World.var?_cell (show Tryz.prog.globalNamed "errors.errorType" = some 7 by kernel_rfl) e5 0
theorem accept_eq : (Rows.laid_unicode_utf8_acceptRanges : DataW Unit) = acceptData := by kernel_rfl
theorem pow_eq : (Rows.laid_internal_strconv_uint64pow10 : DataW Unit) = tabData .u64 pow10Tab := by kernel_rfl
theorem pow_of {W : World} (h : VarReads Tryz.prog W "internal/strconv.uint64pow10" (tabData .u64 pow10Tab)) : TabIs Tryz.prog W "internal/strconv.uint64pow10" .u64 pow10Tab := by
  obtain ⟨g', t', cs, fuel, p, hg', ht', hvar, hd⟩ := h
  obtain rfl := Option.some.inj ((show Tryz.prog.globalNamed "internal/strconv.uint64pow10" = some 11 by kernel_rfl).symm.trans hg')
  obtain rfl := Option.some.inj ((show (Tryz.prog.globals[11]?).map (·.type) = some 188 by kernel_rfl).symm.trans ht')
  unfold TabIs
  rw [hvar, ← cells_of_tab Tryz.underlying188 Tryz.underlying167 (by kernel_rfl) (by kernel_rfl) hd]
theorem penv_of {l hs : List (String × DataW Unit)} {W : World} (hd : laidMet Tryz.prog l W) (hh : handlesMet Tryz.prog hs W) (mh : ("errors.errorType", Rows.laid_errors_errorType) ∈ hs)
    (m1 : ("voyage/api.ErrDue", Rows.laid_voyage_api_ErrDue) ∈ l) (m2 : ("voyage/api.ErrLong", Rows.laid_voyage_api_ErrLong) ∈ l) (m3 : ("voyage/api.ErrDeep", Rows.laid_voyage_api_ErrDeep) ∈ l) (m4 : ("voyage/api.ErrTwice", Rows.laid_voyage_api_ErrTwice) ∈ l)
    (m5 : ("voyage/api.ErrText", Rows.laid_voyage_api_ErrText) ∈ l) (m6 : ("voyage/api.ErrNumber", Rows.laid_voyage_api_ErrNumber) ∈ l) (m7 : ("voyage/api.ErrExponent", Rows.laid_voyage_api_ErrExponent) ∈ l) (m8 : ("strconv.ErrSyntax", Rows.laid_strconv_ErrSyntax) ∈ l)
    (m9 : ("unicode/utf8.first", Rows.laid_unicode_utf8_first) ∈ l) (m10 : ("unicode/utf8.acceptRanges", Rows.laid_unicode_utf8_acceptRanges) ∈ l) (m11 : ("internal/strconv.uint64pow10", Rows.laid_internal_strconv_uint64pow10) ∈ l) : ∃ E, PEnv E W := by
  obtain ⟨a1, h1⟩ := sentinel_mem (g := 1) (by kernel_rfl) (by kernel_rfl) hd m1
  obtain ⟨a2, h2⟩ := sentinel_mem (g := 0) (by kernel_rfl) (by kernel_rfl) hd m2
  obtain ⟨a3, h3⟩ := sentinel_mem (g := 5) (by kernel_rfl) (by kernel_rfl) hd m3
  obtain ⟨a4, h4⟩ := sentinel_mem (g := 6) (by kernel_rfl) (by kernel_rfl) hd m4
  obtain ⟨a5, h5⟩ := sentinel_mem (g := 4) (by kernel_rfl) (by kernel_rfl) hd m5
  obtain ⟨a6, h6⟩ := sentinel_mem (g := 2) (by kernel_rfl) (by kernel_rfl) hd m6
  obtain ⟨a7, h7⟩ := sentinel_mem (g := 3) (by kernel_rfl) (by kernel_rfl) hd m7
  obtain ⟨a8, h8⟩ := sentinel_mem (g := 14) (by kernel_rfl) (by kernel_rfl) hd m8
  have r9 : VarReads Tryz.prog W "unicode/utf8.first" firstData := Pinned.utf8First_eq ▸ laidMet.reads hd m9
  have r10 : VarReads Tryz.prog W "unicode/utf8.acceptRanges" acceptData := accept_eq ▸ laidMet.reads hd m10
  have r11 : VarReads Tryz.prog W "internal/strconv.uint64pow10" (tabData .u64 pow10Tab) := pow_eq ▸ laidMet.reads hd m11
  exact ⟨⟨a1, a2, a3, a4, a5, a6, a7⟩, ⟨⟨h1, h2, h3, h4, h5, h6, h7⟩, ⟨utf8Tabs_of_readsT (U8Types.of196 Tryz.lays196) u8x r9 r10, pow_of r11⟩, ⟨_, _, (var_block (by kernel_rfl) h8).2⟩, handle_mem hh mh⟩⟩
end Go.Proofs.YtmfijfcikecglaaGreatDoor
end
section
set_option linter.unusedVariables false
set_option linter.unusedSimpArgs false
namespace Go.Proofs.YtmfijfcikecglaaGreatDoor
open Go Go.RowKit Go.Proofs.YtmfijfcikecglaaGreatDoorW.PrintWords

theorem eq_err (a : Addr) (W : World) : (binOp .eql 46 (.iface 207 (.pointer (some a))) (.iface 207 (.pointer (some a)))).run Tryz.prog W = .ok (.bool true) W := by
  obtain ⟨i, hi, hc⟩ := Option.map_eq_some_iff.1 (show (Tryz.prog.info? 207).map (·.comparable) = some true by kernel_rfl)
  obtain ⟨j, hj, _⟩ := Option.map_eq_some_iff.1 (show (Tryz.prog.info? 209).map (·.size) = some 1 by kernel_rfl)
  exact run_eql_iface_ptr_same W a Tryz.underlying46 Tryz.underlying207 hi hc hj

set_option maxRecDepth 100000 in
set_option maxHeartbeats 4000000 in
theorem place_any (at_ : Int) (a : Addr) (v : Value) (w : World) (hv : IsFault v at_ (ev a) w) (hE : w.cell? ⟨7, 0, none⟩ = some (.iface 144 (.agg #[typeHandle Tryz.prog 46]))) :
    Calls Tryz.prog 30 #[v] w fun e w' => e = .returned (.tuple #[.int .i64 at_, .iface 207 (.pointer (some a))]) ∧ Below w.heap.size w w' := by
  obtain ⟨k, rfl, hk⟩ := hv
  have hB := (Below.refl w.heap.size w).alloc (Nat.le_refl _) (.cells #[.pointer none] 84)
  have hn := heap_alloc_new w (.cells #[.pointer none] 84)
  have hE1 := pw_cell_below hB hE
  have hk1 := (hB.block k (blk_lt hk)).trans hk
  have hne : some k ≠ some w.heap.size := by intro e; injection e with e; have := blk_lt hk; omega
  have cA := as_fault k w.heap.size _ hn hE1
  replace hB := Aside0.mk hB
  replace hk1 := Aside0.mk hk1
  clear hn hE1 hk hE
  go_enter Tryz.func30, Tryz.ntmps30
  go_wp2_with (go_at_call 58; refine cA.mono ?_; rintro e w3 ⟨rfl, hf3, hW3⟩; have hcf := cellAll hf3; have hk3 := (hW3.block _ (blk_lt hk1.out) hne).trans hk1.out; have hck := cellAll hk3; have hB3 := Aside0.mk (hB.out.trans (hW3.below (Nat.le_refl _) hB.out.size)); replace hf3 := Aside0.mk hf3; replace hk3 := Aside0.mk hk3; unfold ev at hck)
  go_quiet (fail)
  go_wp2_with fail
  go_ret2
  exact ⟨rfl, pw_below_drewN hB3.out _⟩
end Go.Proofs.YtmfijfcikecglaaGreatDoor
end
section
set_option linter.unusedVariables false
set_option linter.unusedSimpArgs false
namespace Go.Proofs.YtmfijfcikecglaaGreatDoor
open Go Go.RowKit Go.Proofs.YtmfijfcikecglaaGreatDoorW.PrintWords

/-- Each error variable's address lies in plain memory. -/
def ErrB (E : ErrV) (w : World) : Prop := ∀ a ∈ [E.due, E.long, E.deep, E.twice, E.text, E.number, E.exponent], ∃ c t, w.heap[a.block]? = some (.cells c t (0, 0))
theorem ErrB.below {E : ErrV} {w w' : World} (h : ErrB E w) (hb : Below w.heap.size w w') : ErrB E w' := fun a ha => by
  obtain ⟨c, t, hc⟩ := h a ha
  exact ⟨c, t, (hb.block _ (blk_lt hc)).trans hc⟩
end Go.Proofs.YtmfijfcikecglaaGreatDoor
end
section
set_option linter.unusedVariables false
set_option linter.unusedSimpArgs false
namespace Go.Proofs.YtmfijfcikecglaaGreatDoor
open Go Go.RowKit Go.Shelf Go.Lib

theorem laid_sentinel2 {P : Program} {n nm : String} {text : List UInt8} {r : List (String × DataW Unit)} {W : World} {g : Nat} {ti tp te ts : TypeId} {ms : Array (String × TypeId)} {f : Field}
    (h : laidMet P ((n, .iface nm (.ptr (.agg [.lit (.string text)]))) :: r) W)
    (hg : P.globalNamed n = some g) (ht : (P.globals[g]?).map (·.type) = some ti) (hi : P.underlying ti = some (.interface ms)) (hrow : ∀ u, P.typeName? 3 u = some nm → u = tp)
    (hp : P.underlying tp = some (.pointer te)) (he : P.underlying te = some (.struct #[f])) (hft : f.type = ts) (hfo : f.offset = 0) (hs : P.underlying ts = some .string) (hc : P.cellsOf te = 1) (hcs : P.cellsOf ts = 1) :
    ∃ (a : Addr), W.var? P n = some #[.iface tp (.pointer (some a))] ∧ ∃ c t, W.heap[a.block]? = some (.cells c t (0, 0)) := by
  obtain ⟨ps, ⟨g0, t0, cs0, f0, p0, q0, hg0, ht0, hv0, hd0, _, e0⟩, _, hrows⟩ := h
  obtain rfl := Option.some.inj (hg.symm.trans hg0)
  obtain rfl := Option.some.inj (ht.symm.trans ht0)
  subst e0
  obtain ⟨l0⟩ := cs0
  have ok0 : ∀ u v, l0 = [.iface u v] → Value.okWide P W .any 0 u v := fun u v e => by
    subst e
    exact (hrows g 0 (by simp [MemPlace.row])).2 u v (by simpa using World.var?_cell hg0 hv0 0)
  obtain ⟨a0, s0, rfl, hc0, hs0, hz0, rfl⟩ := errorString_of_trod hi hrow hp he hft hfo hs hc hcs hd0 ok0
  exact ⟨a0, hv0, (hrows a0.block a0.off (by simp [MemPlace.row])).1⟩
theorem sentinel_mem2 {W : World} {n : String} {text : List UInt8} {g : Nat} (hg : Tryz.prog.globalNamed n = some g) (ht : (Tryz.prog.globals[g]?).map (·.type) = some 46) : ∀ {l : List (String × DataW Unit)}, laidMet Tryz.prog l W → (n, DataW.iface "*errors.errorString" (.ptr (.agg [.lit (.string text)]))) ∈ l → ∃ a, W.var? Tryz.prog n = some #[ev a] ∧ ∃ c t, W.heap[a.block]? = some (.cells c t (0, 0))
  | x :: r, h, hm => by
    rcases List.mem_cons.1 hm with rfl | hm
    · obtain ⟨a, hv, hc⟩ := laid_sentinel2 h hg ht Tryz.underlying46 row_es Tryz.underlying207 Tryz.underlying209 rfl rfl Tryz.underlying9 (by kernel_rfl) cellsOf_str
      exact ⟨a, hv, hc⟩
    · exact sentinel_mem2 hg ht h.tail hm
theorem penv2_of {l hs : List (String × DataW Unit)} {W : World} (hd : laidMet Tryz.prog l W) (hh : handlesMet Tryz.prog hs W) (mh : ("errors.errorType", Rows.laid_errors_errorType) ∈ hs)
    (m1 : ("voyage/api.ErrDue", Rows.laid_voyage_api_ErrDue) ∈ l) (m2 : ("voyage/api.ErrLong", Rows.laid_voyage_api_ErrLong) ∈ l) (m3 : ("voyage/api.ErrDeep", Rows.laid_voyage_api_ErrDeep) ∈ l) (m4 : ("voyage/api.ErrTwice", Rows.laid_voyage_api_ErrTwice) ∈ l)
    (m5 : ("voyage/api.ErrText", Rows.laid_voyage_api_ErrText) ∈ l) (m6 : ("voyage/api.ErrNumber", Rows.laid_voyage_api_ErrNumber) ∈ l) (m7 : ("voyage/api.ErrExponent", Rows.laid_voyage_api_ErrExponent) ∈ l) (m8 : ("strconv.ErrSyntax", Rows.laid_strconv_ErrSyntax) ∈ l)
    (m9 : ("unicode/utf8.first", Rows.laid_unicode_utf8_first) ∈ l) (m10 : ("unicode/utf8.acceptRanges", Rows.laid_unicode_utf8_acceptRanges) ∈ l) (m11 : ("internal/strconv.uint64pow10", Rows.laid_internal_strconv_uint64pow10) ∈ l) : ∃ E, PEnv E W ∧ ErrB E W := by
  obtain ⟨a1, h1, b1⟩ := sentinel_mem2 (g := 1) (by kernel_rfl) (by kernel_rfl) hd m1
  obtain ⟨a2, h2, b2⟩ := sentinel_mem2 (g := 0) (by kernel_rfl) (by kernel_rfl) hd m2
  obtain ⟨a3, h3, b3⟩ := sentinel_mem2 (g := 5) (by kernel_rfl) (by kernel_rfl) hd m3
  obtain ⟨a4, h4, b4⟩ := sentinel_mem2 (g := 6) (by kernel_rfl) (by kernel_rfl) hd m4
  obtain ⟨a5, h5, b5⟩ := sentinel_mem2 (g := 4) (by kernel_rfl) (by kernel_rfl) hd m5
  obtain ⟨a6, h6, b6⟩ := sentinel_mem2 (g := 2) (by kernel_rfl) (by kernel_rfl) hd m6
  obtain ⟨a7, h7, b7⟩ := sentinel_mem2 (g := 3) (by kernel_rfl) (by kernel_rfl) hd m7
  obtain ⟨E, hE⟩ := penv_of hd hh mh m1 m2 m3 m4 m5 m6 m7 m8 m9 m10 m11
  have key : ∀ {n : String} {a b : Addr}, W.var? Tryz.prog n = some #[ev a] → W.var? Tryz.prog n = some #[ev b] → a = b := fun {n a b} h h' => by
    have e := h.symm.trans h'
    unfold ev at e
    simpa using e
  have k1 := key h1 hE.errs.due
  have k2 := key h2 hE.errs.long
  have k3 := key h3 hE.errs.deep
  have k4 := key h4 hE.errs.twice
  have k5 := key h5 hE.errs.text
  have k6 := key h6 hE.errs.number
  have k7 := key h7 hE.errs.exponent
  refine ⟨E, hE, fun a ha => ?_⟩
  simp only [List.mem_cons, List.not_mem_nil, or_false] at ha
  rcases ha with rfl | rfl | rfl | rfl | rfl | rfl | rfl
  · rw [← k1]; exact b1
  · rw [← k2]; exact b2
  · rw [← k3]; exact b3
  · rw [← k4]; exact b4
  · rw [← k5]; exact b5
  · rw [← k6]; exact b6
  · rw [← k7]; exact b7
end Go.Proofs.YtmfijfcikecglaaGreatDoor
end
section
set_option linter.unusedVariables false
set_option linter.unusedSimpArgs false
namespace Go.Proofs.YtmfijfcikecglaaGreatDoor
open Go Go.RowKit Go.Proofs.YtmfijfcikecglaaGreatDoorW.PrintWords Go.ChangeShapes Go.WideShapes

theorem wf_i64 {z : Int} (h : (Lit.int .i64 z).wf = true) : -9223372036854775808 ≤ z ∧ z ≤ 9223372036854775807 := bounds_i64 h
section
variable {H : Type} {enc : TypeId × Value → H} {w : World} {spare : Nat → Bool} {held : Bool}
theorem trod_lt_L {t : TypeId} {v : Value} {d : DataW H} {ps : List MemPlace} (h : DataW.Trod enc Tryz.prog w 0 spare held t v d ps) : ∀ x ∈ ps, x.block < w.heap.size := by
  obtain ⟨m, hm⟩ := h
  exact DataW.trod_lt m _ _ _ hm
set_option maxRecDepth 100000 in
theorem arg_L {r : Reach} {b0 : Nat} {v : Value} {d : DataW H} {ps : List MemPlace} (hv : Value.okWide Tryz.prog w r b0 53 v) (h : DataW.Trod enc Tryz.prog w 0 spare held 53 v d ps) :
    ∃ (A : Option Addr) (n c : Nat) (zs : List Int), v = .slice A n c ∧ ReadsInt w .i64 A n zs ∧ n ≤ c ∧ ∀ z ∈ zs, -9223372036854775808 ≤ z ∧ z ≤ 9223372036854775807 := by
  obtain ⟨a0, len, cap, rfl⟩ := okWide_slice Tryz.underlying53 hv
  obtain ⟨fuel, hf⟩ := h
  rcases open_ints Tryz.underlying53 Tryz.underlying3 cellsOf_int hf with ⟨hcs, hx⟩ | ⟨a, len', cap', zs, hcs, _, hl, hm, hz, hx, hcell, hwz⟩
  · have e : a0 = none ∧ len = 0 ∧ cap = 0 := by simpa [Value.cells] using hcs
    obtain ⟨rfl, rfl, rfl⟩ := e
    exact ⟨none, 0, 0, [], rfl, ⟨rfl, by decide, fun h => absurd h (by decide)⟩, Nat.le_refl _, fun z h => nomatch h⟩
  · have e : a0 = some a ∧ len = len' ∧ cap = cap' := by simpa [Value.cells] using hcs
    obtain ⟨rfl, rfl, rfl⟩ := e
    have hlz : len ≤ zs.length := by rw [hz]; split <;> omega
    refine ⟨some a, len, cap, zs.take len, rfl, ⟨by rw [List.length_take]; omega, ?_, fun _ => ⟨a, rfl, fun j hj => ?_⟩⟩, hl, fun z hzm => wf_i64 (hwz z (List.mem_of_mem_take hzm))⟩
    · simp only [maxLen] at hm; omega
    · rw [hcell j (by omega)]
      congr 2
      rw [List.getD_eq_getElem?_getD, List.getD_eq_getElem?_getD, List.getElem?_take_of_lt hj]
end
end Go.Proofs.YtmfijfcikecglaaGreatDoor
end
section
set_option linter.unusedVariables false
set_option linter.unusedSimpArgs false
namespace Go.Proofs.YtmfijfcikecglaaGreatDoor
open Go Go.RowKit

/-! ### bytes at a place -/
/-- The text s has the bytes q from j on. -/
def Has (s : ByteArray) (j : Nat) (q : List UInt8) : Prop := j + q.length ≤ s.size ∧ ∀ k c, q[k]? = some c → byteAt s (j + k) = c.toNat
theorem Has.nil {s : ByteArray} {j : Nat} (h : j ≤ s.size) : Has s j [] := ⟨by simpa using h, fun k c h => by simp at h⟩
theorem Has.left {s : ByteArray} {j : Nat} {a b : List UInt8} (h : Has s j (a ++ b)) : Has s j a := by
  obtain ⟨h1, h2⟩ := h
  rw [List.length_append] at h1
  refine ⟨by omega, fun k c hk => h2 k c ?_⟩
  rw [List.getElem?_append_left (List.getElem?_eq_some_iff.1 hk).1]
  exact hk
theorem Has.right {s : ByteArray} {j : Nat} {a b : List UInt8} (h : Has s j (a ++ b)) : Has s (j + a.length) b := by
  obtain ⟨h1, h2⟩ := h
  rw [List.length_append] at h1
  refine ⟨by omega, fun k c hk => ?_⟩
  have := h2 (a.length + k) c (by rw [List.getElem?_append_right (by omega), Nat.add_sub_cancel_left]; exact hk)
  rw [← Nat.add_assoc] at this
  exact this
theorem Has.head {s : ByteArray} {j : Nat} {c : UInt8} {q : List UInt8} (h : Has s j (c :: q)) : byteAt s j = c.toNat ∧ j < s.size := by
  obtain ⟨h1, h2⟩ := h
  refine ⟨by simpa using h2 0 c rfl, by simp at h1; omega⟩
theorem Has.tail {s : ByteArray} {j : Nat} {c : UInt8} {q : List UInt8} (h : Has s j (c :: q)) : Has s (j + 1) q := Has.right (a := [c]) h
theorem byteAt_get {s : ByteArray} {j : Nat} (h : j < s.size) : byteAt s j = (s.get! j).toNat := by
  unfold byteAt
  rw [dif_pos h]
  congr 1
  show s.data[j] = s.data[j]!
  rw [getElem!_pos s.data j h]
/-- A whole text has its bytes. -/
theorem Has.all (s : ByteArray) : Has s 0 s.data.toList := by
  refine ⟨by rw [Array.length_toList, Nat.zero_add]; exact Nat.le_refl _, fun k c hk => ?_⟩
  rw [Nat.zero_add]
  rw [Array.getElem?_toList] at hk
  obtain ⟨hl, hc⟩ := Array.getElem?_eq_some_iff.1 hk
  unfold byteAt
  rw [dif_pos (show k < s.size from hl)]
  show (s.data[k]).toNat = _
  rw [hc]
theorem Has.part (s : ByteArray) (j n : Nat) (h : j + n ≤ s.size) : Has s j ((s.data.toList.drop j).take n) := by
  have h0 := Has.all s
  have e : s.data.toList = s.data.toList.take j ++ ((s.data.toList.drop j).take n ++ (s.data.toList.drop j).drop n) := by rw [List.take_append_drop, List.take_append_drop]
  have hj : (s.data.toList.take j).length = j := by rw [List.length_take, Array.length_toList]; have : s.data.size = s.size := rfl; omega
  rw [e] at h0
  have h1 := h0.right.left
  rw [hj, Nat.zero_add] at h1
  exact h1
theorem Has.extract {s : ByteArray} {j : Nat} {q : List UInt8} (h : Has s j q) : s.extract j (j + q.length) = ⟨q.toArray⟩ := by
  have h2 := Has.part s j q.length h.1
  have e : (s.data.toList.drop j).take q.length = q := by
    apply List.ext_getElem?
    intro k
    by_cases hk : k < q.length
    · have hl : k < ((s.data.toList.drop j).take q.length).length := by have h3 := h.1; have h5 : s.data.toList.length = s.size := Array.length_toList; rw [List.length_take, List.length_drop, h5]; omega
      have a := h2.2 k _ (List.getElem?_eq_getElem hl)
      have b := h.2 k _ (List.getElem?_eq_getElem hk)
      rw [List.getElem?_eq_getElem hl, List.getElem?_eq_getElem hk]
      congr 1
      exact UInt8.toNat_inj.1 (a.symm.trans b)
    · rw [List.getElem?_eq_none (by rw [List.length_take]; omega), List.getElem?_eq_none (by omega)]
  apply ByteArray.ext
  apply Array.ext'
  show (s.extract j (j + q.length)).data.toList = q
  rw [← e]
  simp [ByteArray.data_extract, List.extract_eq_take_drop, Nat.add_sub_cancel_left]

/-! ### letters -/
theorem decodeN_same {n m b0 b1 b2 b3 c1 c2 c3 r k : Nat} (h : Lib.decodeN n b0 b1 b2 b3 = (r, k)) (hv : ¬ (r = 65533 ∧ k = 1)) (e1 : 1 < k → c1 = b1) (e2 : 2 < k → c2 = b2) (e3 : 3 < k → c3 = b3) (hm : k ≤ m) : Lib.decodeN m b0 c1 c2 c3 = (r, k) := by
  rcases Lib.decodeN_shape n b0 b1 b2 b3 with ⟨c, e⟩ | ⟨a1, a2, a3, av, e⟩ | ⟨a1, a2, a3, a4, av, ax, e⟩ | ⟨a1, a2, a3, a4, a5, av, aw, e⟩ | e
  all_goals (rw [e] at h; obtain ⟨rfl, rfl⟩ := Prod.mk.inj h)
  · unfold Lib.decodeN; rw [if_pos c]
  · rw [e1 (by omega)]
    unfold Lib.decodeN; rw [if_neg (by omega), if_pos (by omega), if_pos (by omega)]
  · rw [e1 (by omega), e2 (by omega)]
    unfold Lib.decodeN; rw [if_neg (by omega), if_neg (by omega), if_pos (by omega), if_pos (by omega)]
  · rw [e1 (by omega), e2 (by omega), e3 (by omega)]
    unfold Lib.decodeN; rw [if_neg (by omega), if_neg (by omega), if_neg (by omega), if_pos (by omega), if_pos (by omega)]
  · exact absurd ⟨rfl, rfl⟩ hv
theorem decodeN_pos (n b0 b1 b2 b3 : Nat) : 1 ≤ (Lib.decodeN n b0 b1 b2 b3).2 := by
  rcases Lib.decodeN_shape n b0 b1 b2 b3 with ⟨c, e⟩ | ⟨a1, a2, a3, av, e⟩ | ⟨a1, a2, a3, a4, av, ax, e⟩ | ⟨a1, a2, a3, a4, a5, av, aw, e⟩ | e
  all_goals (rw [e]; simp)
theorem get_drop (l : List UInt8) (p k : Nat) : (l.drop p).getD k 0 = l.getD (p + k) 0 := by
  simp [List.getD, List.getElem?_drop]
/-- A letter at a place, copied elsewhere, is read as it. -/
theorem decode_same {l : List UInt8} {s : ByteArray} {j : Nat} (hne : l ≠ []) (hv : ¬ ((Lib.decodeL l).1 = 65533 ∧ (Lib.decodeL l).2 = 1)) (h : Has s j (l.take (Lib.decodeL l).2)) : Utf8.decode s j = Lib.decodeL l := by
  have hl : 0 < l.length := List.length_pos_iff.2 hne
  have hw := Lib.decodeN_width_le l.length (l.getD 0 0).toNat (l.getD 1 0).toNat (l.getD 2 0).toNat (l.getD 3 0).toNat hl
  have hd := Lib.decodeL_N l
  have hp := decodeN_pos l.length (l.getD 0 0).toNat (l.getD 1 0).toNat (l.getD 2 0).toNat (l.getD 3 0).toNat
  rw [hd] at hv h ⊢
  generalize hr : Lib.decodeN l.length (l.getD 0 0).toNat (l.getD 1 0).toNat (l.getD 2 0).toNat (l.getD 3 0).toNat = d at *
  obtain ⟨r, k⟩ := d
  simp only at hv h hw hp
  have hlen : (l.take k).length = k := by rw [List.length_take]; omega
  have hb := h.1
  rw [hlen] at hb
  have hk : ∀ i, i < k → (s.get! (j + i)).toNat = (l.getD i 0).toNat := by
    intro i hi
    have h2 := h.2 i (l.getD i 0) (by rw [List.getElem?_take, if_pos hi, List.getD, List.getElem?_eq_getElem (show i < l.length by omega)]; rfl)
    rw [byteAt_get (by omega)] at h2
    exact h2
  rw [Lib.decode_at]
  have h0 := hk 0 (by omega)
  rw [Nat.add_zero] at h0
  rw [h0]
  exact decodeN_same hr hv (fun h => hk 1 h) (fun h => hk 2 h) (fun h => hk 3 h) (by omega)

/-! ### a text in quotes -/
theorem hex_back : ∀ r : Fin 32, hexL 0 [48, 48, hexd (r.val / 16), hexd (r.val % 16)] = some r.val := by decide +kernel
theorem Has.unit {s : ByteArray} {j r : Nat} (hr : r < 32) (h : Has s j [92, 117, 48, 48, hexd (r / 16), hexd (r % 16)]) : unitAt s j = (r, true) := by
  have h1 := h.1
  simp only [List.length_cons, List.length_nil] at h1
  unfold unitAt
  rw [if_neg (by omega)]
  have e1 := Has.extract (q := [92, 117]) (Has.left (b := [48, 48, hexd (r / 16), hexd (r % 16)]) h)
  have e2 := Has.extract (q := [48, 48, hexd (r / 16), hexd (r % 16)]) (Has.right (a := [92, 117]) h)
  simp only [List.length_cons, List.length_nil, Nat.reduceAdd] at e1 e2
  rw [show j + 2 + 4 = j + 6 by omega] at e2
  rw [e1, if_pos rfl, e2]
  have := hex_back ⟨r, hr⟩
  simp only at this
  show (match hexL 0 [48, 48, hexd (r / 16), hexd (r % 16)] with | some v => (v, true) | none => (0, false)) = _
  rw [this]
/-- A letter as it is told in quotes is read as it. -/
theorem let_back {s : ByteArray} {j r : Nat} {q : List UInt8} (h : Has s j q) (hr : (quoteRune r = q ∧ r < 32) ∨ (r = 34 ∧ q = [92, 34]) ∨ (r = 92 ∧ q = [92, 92])) : byteAt s j ≠ 34 ∧ letAt s j = (r, q.length) ∧ 0 < q.length := by
  have key : ∀ (c : UInt8) (v : Nat) (rest : List UInt8), q = 92 :: c :: rest → shortEsc c.toNat = some v → byteAt s j ≠ 34 ∧ letAt s j = (v, 2) := by
    intro c v rest hq hv
    subst hq
    have h0 := h.head
    have h1 := h.tail.head
    have e0 : byteAt s j = 92 := h0.1
    refine ⟨by omega, ?_⟩
    unfold letAt escAt
    rw [if_neg (by omega), if_pos e0, if_neg (by omega), h1.1, hv]
  rcases hr with ⟨hq, hr⟩ | ⟨rfl, rfl⟩ | ⟨rfl, rfl⟩
  · have hall : r = 8 ∨ r = 9 ∨ r = 10 ∨ r = 12 ∨ r = 13 ∨ (r ≠ 8 ∧ r ≠ 9 ∧ r ≠ 10 ∧ r ≠ 12 ∧ r ≠ 13) := by omega
    rcases hall with rfl | rfl | rfl | rfl | rfl | ⟨n1, n2, n3, n4, n5⟩
    · have hq2 : q = [92, 98] := by rw [← hq]; rfl
      obtain ⟨a, b⟩ := key 98 8 [] hq2 rfl
      subst hq2; exact ⟨a, b, by simp⟩
    · have hq2 : q = [92, 116] := by rw [← hq]; rfl
      obtain ⟨a, b⟩ := key 116 9 [] hq2 rfl
      subst hq2; exact ⟨a, b, by simp⟩
    · have hq2 : q = [92, 110] := by rw [← hq]; rfl
      obtain ⟨a, b⟩ := key 110 10 [] hq2 rfl
      subst hq2; exact ⟨a, b, by simp⟩
    · have hq2 : q = [92, 102] := by rw [← hq]; rfl
      obtain ⟨a, b⟩ := key 102 12 [] hq2 rfl
      subst hq2; exact ⟨a, b, by simp⟩
    · have hq2 : q = [92, 114] := by rw [← hq]; rfl
      obtain ⟨a, b⟩ := key 114 13 [] hq2 rfl
      subst hq2; exact ⟨a, b, by simp⟩
    · have hq2 : q = [92, 117, 48, 48, hexd (r / 16), hexd (r % 16)] := by
        rw [← hq]
        unfold quoteRune
        rw [if_neg (by omega), if_neg (by omega), if_neg n1, if_neg n2, if_neg n3, if_neg n4, if_neg n5, if_pos hr]
      subst hq2
      have hu := Has.unit hr h
      have h0 := h.head
      have h1 := h.tail.head
      have e0 : byteAt s j = 92 := h0.1
      have e1 : byteAt s (j + 1) = 117 := h1.1
      refine ⟨by omega, ?_, by simp⟩
      unfold letAt escAt
      rw [if_neg (by omega), if_pos e0, if_neg (by omega), e1]
      show (if (unitAt s j).2 = false then (0, 0) else if (unitAt s j).1 < 55296 ∨ 57344 ≤ (unitAt s j).1 then ((unitAt s j).1, 6) else _) = _
      rw [hu, if_neg (by simp), if_pos (by simp only; omega)]
      rfl
  · obtain ⟨a, b⟩ := key 34 34 [] rfl rfl
    exact ⟨a, b, by simp⟩
  · obtain ⟨a, b⟩ := key 92 92 [] rfl rfl
    exact ⟨a, b, by simp⟩
end Go.Proofs.YtmfijfcikecglaaGreatDoor
end
section
set_option linter.unusedVariables false
set_option linter.unusedSimpArgs false
namespace Go.Proofs.YtmfijfcikecglaaGreatDoor
open Go Go.RowKit

theorem get_bang (t : ByteArray) (p : Nat) : t.get! p = t.data.toList.getD p 0 := by
  show t.data[p]! = _
  by_cases h : p < t.data.size
  · rw [getElem!_pos t.data p h, List.getD, List.getElem?_eq_getElem (by rw [Array.length_toList]; exact h)]
    simp
  · rw [getElem!_neg t.data p h, List.getD, List.getElem?_eq_none (by rw [Array.length_toList]; omega)]
    rfl
theorem decode_drop (t : ByteArray) (p : Nat) : Utf8.decode t p = Lib.decodeL (t.data.toList.drop p) := by
  rw [Lib.decode_at, Lib.decodeL_N, List.length_drop, Array.length_toList, get_drop, get_drop, get_drop, get_drop, get_bang, get_bang, get_bang, get_bang]
  rfl
theorem encodeRune_len (r : Int) : 1 ≤ (Lib.encodeRune r).length := by
  unfold Lib.encodeRune
  rw [List.length_map]
  exact (Lib.encodeRuneZ_length r).1
/-- The first byte of a letter that is neither small nor told apart. -/
theorem first_byte {l : List UInt8} {b : UInt8} {t : List UInt8} (hl : l = b :: t) (h32 : 32 ≤ (Lib.decodeL l).1) (h34 : (Lib.decodeL l).1 ≠ 34) (h92 : (Lib.decodeL l).1 ≠ 92) : 32 ≤ b.toNat ∧ b.toNat ≠ 34 ∧ b.toNat ≠ 92 := by
  subst hl
  by_cases hb : 128 ≤ b.toNat
  · omega
  · have e : Lib.decodeL (b :: t) = (b.toNat, 1) := by
      rw [Lib.decodeL_N]
      unfold Lib.decodeN
      simp only [List.getD_cons_zero]
      rw [if_pos (by omega)]
    rw [e] at h32 h34 h92
    exact ⟨h32, h34, h92⟩
theorem quoteRune_plain {r : Nat} (h32 : 32 ≤ r) (h34 : r ≠ 34) (h92 : r ≠ 92) : quoteRune r = Lib.encodeRune r := by
  unfold quoteRune
  rw [if_neg h34, if_neg h92, if_neg (by omega), if_neg (by omega), if_neg (by omega), if_neg (by omega), if_neg (by omega), if_neg (by omega)]
theorem quote_back (t : ByteArray) : ∀ (fuel pos : Nat) (s : ByteArray) (j n : Nat), Has s j (quoteFrom t fuel pos ++ [34]) → t.size ≤ pos + fuel → pos ≤ t.size → Lib.validD (t.data.toList.drop pos) = true → s.size < j + n →
    textF s n j (t.data.toList.take pos) = .ok t.data.toList (j + (quoteFrom t fuel pos).length + 1)
  | fuel, pos, s, j, n, h, hf, hp, hv, hn => by
    have hjs := h.1
    rw [List.length_append] at hjs
    simp only [List.length_cons, List.length_nil] at hjs
    obtain ⟨n, rfl⟩ : ∃ m, n = m + 1 := ⟨n - 1, by omega⟩
    by_cases hpos : pos < t.size
    · obtain ⟨fuel, rfl⟩ : ∃ m, fuel = m + 1 := ⟨fuel - 1, by omega⟩
      rw [quoteFrom, if_pos hpos, decode_drop] at h ⊢
      have hlen : (t.data.toList.drop pos).length = t.size - pos := by rw [List.length_drop, Array.length_toList]; rfl
      obtain ⟨b, tl, hl⟩ : ∃ b tl, t.data.toList.drop pos = b :: tl := by
        cases hc : t.data.toList.drop pos with
        | nil => rw [hc] at hlen; simp at hlen; omega
        | cons b tl => exact ⟨b, tl, rfl⟩
      have hne : t.data.toList.drop pos ≠ [] := by rw [hl]; simp
      rw [Lib.validD_step _ hne] at hv
      have hgood : ¬ ((Lib.decodeL (t.data.toList.drop pos)).1 = 65533 ∧ (Lib.decodeL (t.data.toList.drop pos)).2 = 1) := by
        intro hb; rw [if_pos hb] at hv; cases hv
      rw [if_neg hgood] at hv
      have henc := Lib.encode_decode _ hne hgood
      have hw : (Lib.decodeL (t.data.toList.drop pos)).2 ≤ t.size - pos ∧ 1 ≤ (Lib.decodeL (t.data.toList.drop pos)).2 := by
        rw [Lib.decodeL_N, ← hlen]
        have h1 := Lib.decodeN_width_le (t.data.toList.drop pos).length ((t.data.toList.drop pos).getD 0 0).toNat ((t.data.toList.drop pos).getD 1 0).toNat ((t.data.toList.drop pos).getD 2 0).toNat ((t.data.toList.drop pos).getD 3 0).toNat (by omega)
        have h2 := decodeN_pos (t.data.toList.drop pos).length ((t.data.toList.drop pos).getD 0 0).toNat ((t.data.toList.drop pos).getD 1 0).toNat ((t.data.toList.drop pos).getD 2 0).toNat ((t.data.toList.drop pos).getD 3 0).toNat
        omega
      obtain ⟨r, hr⟩ : ∃ r, (Lib.decodeL (t.data.toList.drop pos)).1 = r := ⟨_, rfl⟩
      obtain ⟨k, hk⟩ : ∃ k, (Lib.decodeL (t.data.toList.drop pos)).2 = k := ⟨_, rfl⟩
      rw [hr, hk] at h hgood henc
      rw [hk] at hw hv
      rw [hr, hk]
      rw [List.append_assoc] at h
      have key : byteAt s j ≠ 34 ∧ letAt s j = (r, (quoteRune r).length) ∧ 0 < (quoteRune r).length := by
        by_cases h34 : r = 34
        · exact let_back h.left (.inr (.inl ⟨h34, by subst h34; rfl⟩))
        by_cases h92 : r = 92
        · exact let_back h.left (.inr (.inr ⟨h92, by subst h92; rfl⟩))
        by_cases h32 : r < 32
        · exact let_back h.left (.inl ⟨rfl, h32⟩)
        · have hq := quoteRune_plain (r := r) (by omega) h34 h92
          have hL := h.left
          rw [hq, henc] at hL
          rw [hq, henc]
          have hfb := first_byte hl (by rw [hr]; omega) (by rw [hr]; exact h34) (by rw [hr]; exact h92)
          have hlk : ((t.data.toList.drop pos).take k).length = k := by rw [List.length_take, hlen]; omega
          have hb0 : byteAt s j = b.toNat := by
            have := hL.2 0 b (by rw [List.getElem?_take, if_pos (by omega), hl]; rfl)
            simpa using this
          have hds := decode_same hne (by rw [hr, hk]; exact hgood) (by rw [hk]; exact hL)
          have hjl := hL.1
          rw [hlk] at hjl
          refine ⟨by omega, ?_, by omega⟩
          unfold letAt
          rw [if_neg (by omega), if_neg (by omega), hds, hr, hk, if_neg hgood, hlk]
          exact Prod.ext hr hk
      obtain ⟨k1, k2, k3⟩ := key
      rw [textF, if_neg k1, k2, if_neg (by show ¬ (quoteRune r).length = 0; omega)]
      show textF s n (j + (quoteRune r).length) (t.data.toList.take pos ++ Lib.encodeRune (r : Int)) = _
      have hacc : t.data.toList.take pos ++ Lib.encodeRune (r : Int) = t.data.toList.take (pos + k) := by
        rw [henc, List.take_add]
      rw [hacc]
      have ih := quote_back t fuel (pos + k) s (j + (quoteRune r).length) n h.right (by omega) (by omega) (by rw [← List.drop_drop]; exact hv) (by omega)
      rw [ih, List.length_append]
      congr 1
      omega
    · have hq : quoteFrom t fuel pos = [] := by
        cases fuel with
        | zero => rfl
        | succ m => rw [quoteFrom, if_neg hpos]
      rw [hq] at h ⊢
      have h0 : byteAt s j = 34 := h.head.1
      rw [textF, if_pos h0]
      have htk : t.data.toList.take pos = t.data.toList := List.take_of_length_le (by rw [Array.length_toList]; show t.size ≤ pos; omega)
      rw [htk]
      rfl
/-- **A valid text, told in quotes, is read as it.** -/
theorem text_back {t s : ByteArray} {i : Nat} (hv : Lib.validD t.data.toList = true) (h : Has s i (quoted t)) : textAt s i = .ok t.data.toList (i + (quoted t).length) := by
  unfold quoted at h ⊢
  have := quote_back t t.size 0 s (i + 1) (s.size + 1) h.tail (by omega) (by omega) (by simpa using hv) (by omega)
  unfold textAt
  rw [List.take_zero] at this
  rw [this]
  simp only [List.length_cons, List.length_append, List.length_nil]
  congr 1
  omega

/-! ### clean gives what is valid -/
theorem bytes_nat (z : Int) (h : 0 ≤ z ∧ z < 256) : (z.toNat.toUInt8).toNat = z.toNat := by
  have : z.toNat < 256 := by omega
  simp [Nat.toUInt8, UInt8.toNat_ofNat', Nat.mod_eq_of_lt this]
theorem validD_enc (r : Nat) (h : r < 55296 ∨ (57343 < r ∧ r ≤ 1114111)) (l : List UInt8) : Lib.validD (Lib.encodeRune (r : Int) ++ l) = Lib.validD l := by
  have hne : Lib.encodeRune (r : Int) ++ l ≠ [] := by
    have := encodeRune_len (r : Int)
    intro e
    rw [List.append_eq_nil_iff] at e
    rw [e.1] at this
    simp at this
  have key : Lib.decodeL (Lib.encodeRune (r : Int) ++ l) = (r, (Lib.encodeRune (r : Int)).length) ∧ ¬ (r = 65533 ∧ (Lib.encodeRune (r : Int)).length = 1) := by
    unfold Lib.encodeRune
    by_cases h1 : r ≤ 127
    · rw [Lib.encodeRuneZ_one (by omega) (by omega)]
      refine ⟨?_, by omega⟩
      rw [Lib.decodeL_N]
      simp only [List.map_cons, List.map_nil, List.cons_append, List.nil_append, List.getD_cons_zero]
      rw [bytes_nat _ (by omega)]
      unfold Lib.decodeN
      rw [if_pos (by omega)]
      simp
    by_cases h2 : r ≤ 2047
    · rw [Lib.encodeRuneZ_two (by omega) (by omega)]
      refine ⟨?_, by simp⟩
      rw [Lib.decodeL_N]
      simp only [List.map_cons, List.map_nil, List.cons_append, List.nil_append, List.getD_cons_zero, List.getD_cons_succ, List.length_cons, List.length_append, List.length_nil]
      rw [bytes_nat _ (by omega), bytes_nat _ (by omega)]
      unfold Lib.decodeN
      rw [if_neg (by omega), if_pos (by omega), if_pos (by omega)]
      apply Prod.ext <;> simp only <;> omega
    by_cases h3 : r ≤ 65535
    · rw [Lib.encodeRuneZ_three (by omega)]
      refine ⟨?_, by simp⟩
      rw [Lib.decodeL_N]
      simp only [List.map_cons, List.map_nil, List.cons_append, List.nil_append, List.getD_cons_zero, List.getD_cons_succ, List.length_cons, List.length_append, List.length_nil]
      rw [bytes_nat _ (by omega), bytes_nat _ (by omega), bytes_nat _ (by omega)]
      unfold Lib.decodeN
      rw [if_neg (by omega), if_neg (by omega), if_pos (by omega), if_pos (by omega)]
      apply Prod.ext <;> simp only <;> omega
    · rw [Lib.encodeRuneZ_four (by omega) (by omega)]
      refine ⟨?_, by simp⟩
      rw [Lib.decodeL_N]
      simp only [List.map_cons, List.map_nil, List.cons_append, List.nil_append, List.getD_cons_zero, List.getD_cons_succ, List.length_cons, List.length_append, List.length_nil]
      rw [bytes_nat _ (by omega), bytes_nat _ (by omega), bytes_nat _ (by omega), bytes_nat _ (by omega)]
      unfold Lib.decodeN
      rw [if_neg (by omega), if_neg (by omega), if_neg (by omega), if_pos (by omega), if_pos (by omega)]
      apply Prod.ext <;> simp only <;> omega
  rw [Lib.validD_step _ hne, key.1, if_neg key.2, List.drop_left]
theorem cleanFrom_valid (s : ByteArray) : ∀ (fuel pos : Nat), Lib.validD (cleanFrom s fuel pos) = true
  | 0, pos => rfl
  | fuel + 1, pos => by
    rw [cleanFrom]
    split
    · rw [decode_drop, Lib.decodeL_N]
      rw [validD_enc]
      · exact cleanFrom_valid s fuel _
      · rcases Lib.decodeN_shape (s.data.toList.drop pos).length ((s.data.toList.drop pos).getD 0 0).toNat ((s.data.toList.drop pos).getD 1 0).toNat ((s.data.toList.drop pos).getD 2 0).toNat ((s.data.toList.drop pos).getD 3 0).toNat with ⟨c, e⟩ | ⟨a1, a2, a3, av, e⟩ | ⟨a1, a2, a3, a4, av, ax, e⟩ | ⟨a1, a2, a3, a4, a5, av, aw, e⟩ | e
        all_goals (rw [e]; simp only; omega)
    · rfl
theorem clean_valid (s : ByteArray) : Lib.validD (clean s).data.toList = true := by
  unfold clean
  split
  · assumption
  · exact cleanFrom_valid s _ _
theorem clean_of_valid {s : ByteArray} (h : Lib.validD s.data.toList = true) : clean s = s := by
  unfold clean
  rw [if_pos h]
end Go.Proofs.YtmfijfcikecglaaGreatDoor
end
