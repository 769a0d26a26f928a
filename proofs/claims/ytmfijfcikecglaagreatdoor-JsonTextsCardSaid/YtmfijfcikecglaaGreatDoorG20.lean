/- What json's reader gives is of a bounded weight, each of its ints one of 64 bits. json.Parse: what it gives; a text at whose value a fault stands. json.Parse: a text behind whose value something stands. json.Parse: a text too long; a text that is read. json.Parse, whole; its answers at the statements' two constant texts. voyagelaw02.many, heavy: what is not heavy has a weight of at most 2^22. What reads as data at api.Value is a value: from a row's reading to kV.K. From what a row lists of the package-level variables to what the contracts ask. voyagelaw02.place at a fault. voyagelaw02.code at one of the package's errors: above 0. -/
import Derived.Test.YtmfijfcikecglaaGreatDoorG19
import Derived.Test.YtmfijfcikecglaaGreatDoorG11
import Derived.Test.YtmfijfcikecglaaGreatDoorG10
import Derived.Deep.Cut
import Derived.Deep.CutRange
import Derived.BigQuiet
import Derived.Deep.QuietTactic
import Derived.StillTailTactics
import Derived.Deep.Strs
import Derived.Deep.Slices
import Derived.ProofKit
import Derived.SizedLaws
import Derived.Test.YtmfijfcikecglaaGreatDoorRows
import Derived.Stop.LaidErr
import Derived.Lib.LaidU8T
import Derived.LaidHandle
import Derived.Lay
import Derived.PinnedBridge
import Derived.LaidEql
section
set_option linter.unusedVariables false
set_option linter.unusedSimpArgs false
namespace Go.Proofs.YtmfijfcikecglaaGreatDoor
open Go Go.RowKit Go.Proofs.YtmfijfcikecglaaGreatDoorW.PrintWords

theorem textF_wt (s : ByteArray) : ∀ (n i : Nat) (acc l : List UInt8) (j : Nat), textF s n i acc = .ok l j → l.length + 4 * i ≤ acc.length + 4 * j
  | 0, i, acc, l, j, h => by rw [textF] at h; cases h
  | n + 1, i, acc, l, j, h => by
    rw [textF] at h
    split at h
    · injection h with h1 h; subst h1; omega
    · split at h
      · cases h
      · rename_i h1 h2
        have h3 := textF_wt s n _ _ l j h
        have h4 := letter_len (letAt s i).1 [] 0 1 (by simp) (by omega)
        rw [List.length_append] at h3
        simp only [List.nil_append] at h4
        omega
theorem textAt_wt {s : ByteArray} {i : Nat} {l : List UInt8} {j : Nat} (h : textAt s i = .ok l j) : l.length + 4 * (i + 1) ≤ 4 * j := by
  have := textF_wt s _ _ _ _ _ h
  simpa using this
theorem numTo_size (s : ByteArray) : ∀ (n i : Nat), i ≤ s.size → numTo s n i ≤ s.size
  | 0, i, h => h
  | n + 1, i, h => by
    rw [numTo]
    split
    · exact numTo_size s n (i + 1) (by omega)
    · exact h
theorem decParse_b {s : ByteArray} (hs : s.size ≤ 1048576) {d : Dec} (h : decParse s = .ok d) : d.digits.size ≤ s.size ∧ -9999 ≤ d.exp ∧ d.exp ≤ 9999 := by
  unfold decParse at h
  have hb := numeral_b hs
  generalize numeral s = r at h hb
  match r, h, hb with
  | some (neg, bs, x), h, hb =>
    have h1 := (hb neg bs x rfl).1
    simp only at h
    split at h
    · injection h with h
      subst h
      have h2 := decForm_bounds neg (strOfNums bs) x
      rw [strOfNums_size] at h2
      exact ⟨by omega, h2.2.1, h2.2.2⟩
    · cases h
theorem numberAt_wt {s : ByteArray} (hs : s.size ≤ 1048576) {i : Nat} {x : JV} {j : Nat} (h : numberAt s i = .ok x j) : x.wt + i ≤ 1 + j ∧ x.ints := by
  unfold numberAt at h
  split at h
  · rename_i d hd
    injection h with h h2
    have he := numTo_le s (s.size + 1) i
    rw [h2] at he hd
    have hz : (s.extract i j).size ≤ j - i := by rw [ByteArray.size_extract]; omega
    have hz2 : (s.extract i j).size ≤ s.size := by rw [ByteArray.size_extract]; omega
    have hb := decParse_b (by omega) hd
    subst h
    refine ⟨?_, ?_⟩
    · rw [JV.wt, JV.wtL, JV.wtF]
      show 1 + d.digits.size + 0 + 0 + 0 + i ≤ 1 + j
      omega
    · rw [JV.ints, JV.intsL, JV.intsF]
      exact ⟨by omega, by omega, trivial, trivial⟩
  · cases h
theorem numberAt_le {s : ByteArray} {i : Nat} {x : JV} {j : Nat} (h : numberAt s i = .ok x j) : i ≤ j := by
  unfold numberAt at h
  split at h
  · injection h with _ h
    have := numTo_le s (s.size + 1) i
    omega
  · cases h
theorem sevF_wt {σ : Type} (s : ByteArray) (c : Nat) (each : Nat → σ → PR σ) (m : σ → Nat) (P : σ → Prop) (hw : ∀ i x y j, each i x = .ok y j → P x → m y + 8 * i ≤ m x + 8 * j + 8 ∧ P y) : ∀ (n i : Nat) (x y : σ) (j : Nat), sevF s c each n i x = .ok y j → P x → m y + 8 * i ≤ m x + 8 * j ∧ P y
  | 0, i, x, y, j, h, hp => by rw [sevF] at h; cases h
  | n + 1, i, x, y, j, h, hp => by
    rw [sevF] at h
    cases he : each i x with
    | no k e => rw [he] at h; cases h
    | ok z k =>
      rw [he] at h
      simp only at h
      obtain ⟨h1, hz⟩ := hw _ _ _ _ he hp
      have h2 := gapTo_le s k
      have h3 := gapTo_le s (gapTo s k + 1)
      split at h
      · obtain ⟨h4, h5⟩ := sevF_wt s c each m P hw n _ _ _ _ h hz
        exact ⟨by omega, h5⟩
      · split at h
        · injection h with h0 h; subst h0; exact ⟨by omega, hz⟩
        · cases h
theorem sevAt_wt {σ : Type} (s : ByteArray) (c : Nat) (each : Nat → σ → PR σ) (m : σ → Nat) (P : σ → Prop) (hw : ∀ i x y j, each i x = .ok y j → P x → m y + 8 * i ≤ m x + 8 * j + 8 ∧ P y) {i : Nat} {x y : σ} {j : Nat} (h : sevAt s c each i x = .ok y j) (hp : P x) : m y + 8 * i + 8 ≤ m x + 8 * j ∧ P y := by
  unfold sevAt at h
  have h1 := gapTo_le s (i + 1)
  split at h
  · injection h with h0 h; subst h0; exact ⟨by omega, hp⟩
  · obtain ⟨h4, h5⟩ := sevF_wt s c each m P hw _ _ _ _ _ h hp
    exact ⟨by omega, h5⟩
theorem wtL_snoc (a : List JV) (x : JV) : JV.wtL (a ++ [x]) = JV.wtL a + (1 + x.wt) := by
  rw [wtL_app, JV.wtL, JV.wtL]; omega
theorem wtF_snoc (a : List JF) (nm : ByteArray) (x : JV) : JV.wtF (a ++ [.mk nm x]) = JV.wtF a + (1 + nm.size + x.wt) := by
  rw [wtF_app, JV.wtF, JV.wtF]; omega
theorem intsL_app : ∀ (a : List JV) (x : JV), JV.intsL a → x.ints → JV.intsL (a ++ [x])
  | [], x, _, h => by show JV.intsL [x]; rw [JV.intsL, JV.intsL]; exact ⟨h, trivial⟩
  | y :: a, x, ha, h => by
    rw [JV.intsL] at ha
    show JV.intsL (y :: (a ++ [x]))
    rw [JV.intsL]
    exact ⟨ha.1, intsL_app a x ha.2 h⟩
theorem intsF_app : ∀ (a : List JF) (nm : ByteArray) (x : JV), JV.intsF a → x.ints → JV.intsF (a ++ [.mk nm x])
  | [], nm, x, _, h => by show JV.intsF [.mk nm x]; rw [JV.intsF, JV.intsF]; exact ⟨h, trivial⟩
  | .mk n2 y :: a, nm, x, ha, h => by
    rw [JV.intsF] at ha
    show JV.intsF (.mk n2 y :: (a ++ [.mk nm x]))
    rw [JV.intsF]
    exact ⟨ha.1, intsF_app a nm x ha.2 h⟩
/-- A reading of a value by its places. -/
def ReadWt (val : Nat → PR JV) : Prop := ∀ i x j, val i = .ok x j → x.wt + 8 * i ≤ 8 * j + 1 ∧ x.ints
theorem itemL_wt {val : Nat → PR JV} (hv : ReadWt val) (i : Nat) (xs ys : List JV) (j : Nat) (h : itemL val i xs = .ok ys j) (hp : JV.intsL xs) : JV.wtL ys + 8 * i ≤ JV.wtL xs + 8 * j + 8 ∧ JV.intsL ys := by
  unfold itemL at h
  cases hx : val i with
  | no k e => rw [hx] at h; cases h
  | ok x k =>
    rw [hx] at h
    injection h with h0 h
    subst h0 h
    obtain ⟨h1, h2⟩ := hv _ _ _ hx
    rw [wtL_snoc]
    exact ⟨by omega, intsL_app _ _ hp h2⟩
theorem fieldAt_wt {s : ByteArray} {val : Nat → PR JV} (hv : ReadWt val) (i : Nat) (fs gs : List JF) (j : Nat) (h : fieldAt s val i fs = .ok gs j) (hp : JV.intsF fs) : JV.wtF gs + 8 * i ≤ JV.wtF fs + 8 * j + 8 ∧ JV.intsF gs := by
  unfold fieldAt at h
  split at h
  · cases ht : textAt s i with
    | no k e => rw [ht] at h; cases h
    | ok l k =>
      rw [ht] at h
      simp only at h
      have h1 := textAt_wt ht
      split at h
      · cases h
      · split at h
        · cases hx : val (gapTo s (gapTo s k + 1)) with
          | no k2 e => rw [hx] at h; cases h
          | ok x k2 =>
            rw [hx] at h
            obtain ⟨h2, h2'⟩ := hv _ _ _ hx
            have h3 := gapTo_le s (gapTo s k + 1)
            have h4 := gapTo_le s k
            unfold fieldOf at h
            injection h with h5 h6
            subst h5 h6
            rw [wtF_snoc]
            refine ⟨?_, intsF_app _ _ _ hp h2'⟩
            have hl : (ByteArray.mk l.toArray).size = l.length := by show l.toArray.size = _; simp
            rw [hl]
            omega
        · cases h
  · cases h
theorem textVal_wt {s : ByteArray} {i : Nat} {x : JV} {j : Nat} (h : textVal s i = .ok x j) : x.wt + 8 * i ≤ 8 * j + 1 ∧ x.ints := by
  unfold textVal at h
  cases ht : textAt s i with
  | no k e => rw [ht] at h; cases h
  | ok l k =>
    rw [ht] at h
    injection h with h0 h
    have h1 := textAt_wt ht
    have h2 := textAt_adv ht
    subst h0 h
    have hl : (ByteArray.mk l.toArray).size = l.length := by show l.toArray.size = _; simp
    refine ⟨?_, ?_⟩
    · rw [JV.wt, JV.wtL, JV.wtF, hl]
      show 1 + 0 + l.length + 0 + 0 + 8 * i ≤ _
      omega
    · rw [JV.ints, JV.intsL, JV.intsF]
      exact ⟨by omega, by omega, trivial, trivial⟩
theorem litAt_wt {s : ByteArray} {i : Nat} {x : JV} {j : Nat} (h : litAt s i = .ok x j) : x.wt + 8 * i ≤ 8 * j + 1 ∧ x.ints := by
  unfold litAt at h
  repeat' split at h
  all_goals (first | (injection h with h0 h; subst h0 h; unfold JV.nul; rw [JV.wt, JV.wtL, JV.wtF, JV.ints, JV.intsL, JV.intsF]; refine ⟨?_, by omega, by omega, trivial, trivial⟩; show 1 + 0 + 0 + 0 + 0 + 8 * i ≤ _; omega) | (injection h with h0 h; subst h0 h; rw [JV.wt, JV.wtL, JV.wtF, JV.ints, JV.intsL, JV.intsF]; refine ⟨?_, by omega, by omega, trivial, trivial⟩; show 1 + 0 + 0 + 0 + 0 + 8 * i ≤ _; omega) | cases h)
theorem valWith_wt {s : ByteArray} (hs : s.size ≤ 1048576) {lst obj : PR JV} {i : Nat} (hl : ∀ x j, lst = .ok x j → x.wt + 8 * i ≤ 8 * j + 1 ∧ x.ints) (ho : ∀ x j, obj = .ok x j → x.wt + 8 * i ≤ 8 * j + 1 ∧ x.ints) {x : JV} {j : Nat} (h : valWith s lst obj i = .ok x j) : x.wt + 8 * i ≤ 8 * j + 1 ∧ x.ints := by
  unfold valWith at h
  split at h
  · exact hl _ _ h
  · split at h
    · exact ho _ _ h
    · split at h
      · exact textVal_wt h
      · split at h
        · have h1 := numberAt_wt hs h
          have h2 := numberAt_le h
          exact ⟨by omega, h1.2⟩
        · exact litAt_wt h
theorem valF_wt (s : ByteArray) (hs : s.size ≤ 1048576) : ∀ (D : Nat), ReadWt (valF s D)
  | 0, i, x, j, h => by
    rw [valF] at h
    exact valWith_wt hs (fun x j h => by cases h) (fun x j h => by cases h) h
  | D + 1, i, x, j, h => by
    rw [valF] at h
    refine valWith_wt hs (fun x j h => ?_) (fun x j h => ?_) h
    · cases hp : sevAt s 93 (itemL (valF s D)) i [] with
      | no k e => rw [hp] at h; cases h
      | ok xs k =>
        rw [hp] at h
        injection h with h0 h
        obtain ⟨h1, h2⟩ := sevAt_wt s 93 _ JV.wtL JV.intsL (itemL_wt (valF_wt s hs D)) hp (by rw [JV.intsL]; trivial)
        subst h0 h
        rw [JV.wtL] at h1
        refine ⟨?_, ?_⟩
        · rw [JV.wt, JV.wtF]
          show 1 + 0 + 0 + JV.wtL xs + 0 + 8 * i ≤ _
          omega
        · rw [JV.ints, JV.intsF]
          exact ⟨by omega, by omega, h2, trivial⟩
    · cases hp : sevAt s 125 (fieldAt s (valF s D)) i [] with
      | no k e => rw [hp] at h; cases h
      | ok xs k =>
        rw [hp] at h
        injection h with h0 h
        obtain ⟨h1, h2⟩ := sevAt_wt s 125 _ JV.wtF JV.intsF (fieldAt_wt (valF_wt s hs D)) hp (by rw [JV.intsF]; trivial)
        subst h0 h
        rw [JV.wtF] at h1
        refine ⟨?_, ?_⟩
        · rw [JV.wt, JV.wtL]
          show 1 + 0 + 0 + 0 + JV.wtF xs + 8 * i ≤ _
          omega
        · rw [JV.ints, JV.intsL]
          exact ⟨by omega, by omega, trivial, h2⟩
end Go.Proofs.YtmfijfcikecglaaGreatDoor
end
section
set_option linter.unusedVariables false
set_option linter.unusedSimpArgs false
namespace Go.Proofs.YtmfijfcikecglaaGreatDoor
open Go Go.RowKit Go.Proofs.YtmfijfcikecglaaGreatDoorW.PrintWords

def parseTo (s : ByteArray) : PR JV := match valF s 64 (gapTo s 0) with
  | .no k e => .no k e
  | .ok x j => if gapTo s j < s.size then .no (gapTo s j) .due else .ok x.norm j
/-- What Parse reads of the library and of the package api. -/
structure PEnv (E : ErrV) (w : World) : Prop where
  errs : Errs E w
  facts : Facts w
  syn : ∃ TT pp, w.cell? ⟨14, 0, none⟩ = some (.iface TT pp)
  et : w.cell? ⟨7, 0, none⟩ = some (.iface 144 (.agg #[typeHandle Tryz.prog 46]))
def ParseGives (E : ErrV) (w : World) : PR JV → Ending → World → Prop
  | .ok x _, e, w' => ∃ cs, e = .returned (.tuple #[.agg cs.toArray, .nilIface]) ∧ kV.M w' w.heap.size (fun _ => True) x cs ∧ Below w.heap.size w w'
  | .no k pe, e, w' => ∃ v, e = .returned (.tuple #[.agg nulCells.toArray, v]) ∧ IsFault v k (ev (E.at_ pe)) w' ∧ Below w.heap.size w w'

theorem low_setCells {B b : Nat} {w W : World} (h : Below B w W) (hb : B ≤ b) (vs : List Value) (j : Nat) : Below B w (W.setCells b j vs) := by
  obtain ⟨s1, s2, s3, s4⟩ := setCells_same b vs j W
  exact h.trans ⟨s1, s2, s3, by rw [s4]; exact Nat.le_refl _, fun k hk => setCells_far vs j k (by omega)⟩
theorem parse_ne {W : World} {B k kk : Nat} {v : Value} (hb : ∃ cs, W.heap[B]? = some (.cells cs 27 (0, 0))) (hk : W.heap[kk]? = some (.cells #[.int .i64 k, .string ⟨#[]⟩, v] 88 (0, 0))) : kk ≠ B := by
  obtain ⟨cs, hb⟩ := hb
  exact blk_ne hk hb (by decide)
theorem parse_at {W : World} {B k kk : Nat} {v : Value} (hne : kk ≠ B) (hk : W.heap[kk]? = some (.cells #[.int .i64 k, .string ⟨#[]⟩, v] 88 (0, 0))) : (W.setCells B 0 nulCells).heap[kk]? = some (.cells #[.int .i64 k, .string ⟨#[]⟩, v] 88 (0, 0)) := by
  rw [setCells_far _ _ _ hne]; exact hk
theorem parse_gives_no {E : ErrV} {w W : World} {k kk : Nat} {pe : PE} (hl : Below w.heap.size w W) (hk : W.heap[kk]? = some (.cells #[.int .i64 k, .string ⟨#[]⟩, ev (E.at_ pe)] 88 (0, 0))) :
    ParseGives E w (.no k pe) (.returned (.tuple #[.agg nulCells.toArray, .iface 84 (.pointer (some ⟨kk, 0, none⟩))])) W := by
  unfold ParseGives
  exact ⟨_, rfl, ⟨kk, rfl, hk⟩, hl⟩
theorem parse_no {E : ErrV} {w W : World} {k kk : Nat} {pe : PE} (hl : Below w.heap.size w W) (hb : ∃ cs, W.heap[w.heap.size]? = some (.cells cs 27 (0, 0))) (hk : W.heap[kk]? = some (.cells #[.int .i64 k, .string ⟨#[]⟩, ev (E.at_ pe)] 88 (0, 0))) :
    ParseGives E w (.no k pe) (.returned (.tuple #[.agg nulCells.toArray, .iface 84 (.pointer (some ⟨kk, 0, none⟩))])) (W.setCells w.heap.size 0 nulCells) :=
  parse_gives_no (low_setCells hl (Nat.le_refl _) _ _) (parse_at (parse_ne hb hk) hk)

theorem ParseGives.drew {E : ErrV} {w W : World} {r : PR JV} {e : Ending} (h : ParseGives E w r e W) : ParseGives E w r e W.drew := by
  cases r with
  | ok x j =>
    obtain ⟨cs, h1, h2, h3⟩ := h
    exact ⟨cs, h1, kV.M_below h2 (below_drew (Below.refl _ _)), below_drew h3⟩
  | no k pe =>
    obtain ⟨v, h1, ⟨kk, h2, h3⟩, h4⟩ := h
    exact ⟨v, h1, ⟨kk, h2, h3⟩, below_drew h4⟩
theorem parse_no8 {E : ErrV} {w W : World} {k kk b : Nat} {pe : PE} (hbw : b = w.heap.size) (hl : Below w.heap.size w W) (hb : ∃ cs, W.heap[b]? = some (.cells cs 27 (0, 0))) (hk : W.heap[kk]? = some (.cells #[.int .i64 k, .string ⟨#[]⟩, ev (E.at_ pe)] 88 (0, 0))) :
    ParseGives E w (.no k pe) (.returned (.tuple #[.agg #[.int .i64 0, .bool false, .bool false, .string ⟨#[]⟩, .int .i64 0, .string ⟨#[]⟩, .slice none 0 0, .slice none 0 0], .iface 84 (.pointer (some ⟨kk, 0, none⟩))]))
      ((((((((W.setCell ⟨b, 0, none⟩ (.int .i64 0)).setCell ⟨b, 1, none⟩ (.bool false)).setCell ⟨b, 2, none⟩ (.bool false)).setCell ⟨b, 3, none⟩ (.string ⟨#[]⟩)).setCell ⟨b, 4, none⟩ (.int .i64 0)).setCell ⟨b, 5, none⟩ (.string ⟨#[]⟩)).setCell ⟨b, 6, none⟩ (.slice none 0 0)).setCell ⟨b, 7, none⟩ (.slice none 0 0)).drew := by
  subst hbw
  have h := parse_no hl hb hk
  simp only [nulCells, World.setCells] at h
  exact h.drew

set_option maxRecDepth 100000 in
set_option maxHeartbeats 4000000 in
theorem parse_bad (E : ErrV) (s : ByteArray) (w : World) (hs : s.size ≤ 1048576) (hP : PEnv E w) (k : Nat) (pe : PE) (hv : valF s 64 (gapTo s 0) = .no k pe) :
    Calls Tryz.prog 29 #[.string s] w fun e w' => ParseGives E w (.no k pe) e w' := by
  obtain ⟨TT, pp, hsyn⟩ := hP.syn
  have hb := ((Below.refl _ w).alloc (Nat.le_refl _) (.cells #[.int .i64 0, .bool false, .bool false, .string ⟨#[]⟩, .int .i64 0, .string ⟨#[]⟩, .slice none 0 0, .slice none 0 0] 27)).alloc (by simp) (.cells #[.string s, .int .i64 0, .int .i64 0] 82)
  obtain ⟨e0, e1⟩ := boxes w (.cells #[.int .i64 0, .bool false, .bool false, .string ⟨#[]⟩, .int .i64 0, .string ⟨#[]⟩, .slice none 0 0, .slice none 0 0] 27) (.cells #[.string s, .int .i64 0, .int .i64 0] 82)
  have hR0 : RS E w s 0 0 (w.heap.size + 1) ((w.alloc (.cells #[.int .i64 0, .bool false, .bool false, .string ⟨#[]⟩, .int .i64 0, .string ⟨#[]⟩, .slice none 0 0, .slice none 0 0] 27)).alloc (.cells #[.string s, .int .i64 0, .int .i64 0] 82)) := ⟨e1, by omega, hb, hP.errs, hP.facts, hs, Nat.zero_le _⟩
  have hsz2 : (s.size : Int) ≤ 1048576 := by omega
  have cG := gap_r hR0
  have cV := fun (W : World) (hW : RS E w s (gapTo s 0) 0 (w.heap.size + 1) W) => value_any TT pp hsyn 64 (Nat.le_refl _) (gapTo s 0) W hW
  generalize gapTo s 0 = i0 at *
  rw [hv] at cV
  clear hv
  replace e0 := Aside0.mk e0
  replace hR0 := Aside0.mk hR0
  replace hP := Aside0.mk hP
  go_enter Tryz.func29, Tryz.ntmps29
  go_wp2_with (first
    | (go_at_call 58; refine (as_fault kk w4.heap.size _ hn5.out hE5.out).mono ?_; rintro e w6 ⟨rfl, hf6, hW6⟩; have hcf := cellAll hf6; have hbx6 := (hW6.block _ (blk_lt hbx5.out) (by intro e; injection e with e; exact hne5.out e)).trans hbx5.out; have hc6 := cellAll hbx6; have hfz6 := frozenAll hbx6; replace hf6 := Aside0.mk hf6; replace hbx6 := Aside0.mk hbx6)
    | (go_at_call 56; refine (gap_r hR3.out).mono ?_; rintro e w4 ⟨rfl, hR4, hW4⟩; have hbx4 := (hW4.block _ (blk_lt hbx3.out) (by intro e; injection e with e; omega)).trans hbx3.out; have hk4 := Aside0.mk ((hW4.block _ (blk_lt hk3.out) (by intro e; injection e with e; exact hkr.out e)).trans hk3.out); have hB5 := (Below.refl w4.heap.size w4).alloc (Nat.le_refl _) (.cells #[.pointer none] 84); have hn5 := Aside0.mk (heap_alloc_new w4 (.cells #[.pointer none] 84)); have hR5 := Aside0.mk (hR4.below hB5); have hE5 := Aside0.mk (pw_cell_below hR5.out.low hP.out.et); have hbx5 := Aside0.mk ((hB5.block _ (blk_lt hbx4)).trans hbx4); have hk5 := Aside0.mk ((hB5.block _ (blk_lt hk4.out)).trans hk4.out); have hne5 : Aside0 (w.heap.size ≠ w4.heap.size) := ⟨by have := blk_lt hbx4; omega⟩; clear hB5 hbx4)
    | (go_at_call 57; refine (cV _ hR1).mono ?_; rintro e w2 ⟨x, cs, v, rfl, hM, ⟨⟨kk, rfl, hk⟩, j', o', hR2⟩, hW2⟩; obtain ⟨l, f, rfl, hRl, hRf⟩ := kV_openM hM; obtain ⟨Al, cl, rfl⟩ := Kd.R_slice hRl; obtain ⟨Af, cf, rfl⟩ := Kd.R_slice hRf; clear hRl hRf; unfold JV.cells at hM ⊢; replace hM := Aside0.mk hM; have hB3 := (Below.refl w2.heap.size w2).alloc (Nat.le_refl _) (.cells #[.int .i64 x.kind, .bool x.truth, .bool x.neg, .string x.digits, .int .i64 x.exp, .string x.text, .slice Al x.list.length cl, .slice Af x.fields.length cf] 27); have hkr := Aside0.mk (blk_ne hk hR2.rd (by decide)); have hk3 := Aside0.mk ((hB3.block _ (blk_lt hk)).trans hk); have hbx2 := (hW2.block _ (blk_lt hbx1.out) (by intro e; injection e with e; omega)).trans hbx1.out; have hbx3 := Aside0.mk ((hB3.block _ (blk_lt hbx2)).trans hbx2); have hR3 := Aside0.mk (hR2.below hB3); clear hB3 hbx2 hk)
    | (go_at_call 56; refine cG.mono ?_; rintro e w1 ⟨rfl, hR1, hW1⟩; have hbx1 := Aside0.mk ((hW1.block _ (blk_lt e0.out) (by intro e; injection e with e; omega)).trans e0.out)))
  have hneb : w.heap.size ≠ w4.heap.size := hne5.out
  have hneb' := Ne.symm hneb
  have hk6 := (hW6.block _ (blk_lt hk5.out) (by intro e; injection e with e; exact blk_ne hk5.out hn5.out (by decide) e)).trans hk5.out
  have hl6 := hR5.out.low.trans (hW6.below (Nat.le_of_lt (by have := blk_lt hbx5.out; have := hR4.rd.lt; omega)) (hR5.out.low.size))
  replace hk6 := Aside0.mk hk6
  replace hl6 := Aside0.mk hl6
  go_region_held3 (fun w' => w'.cell? ⟨w4.heap.size, 0, none⟩ = some (.pointer (some ⟨kk, 0, none⟩))) (first | (simp [hcf]; done) | (simp [hcf, World.cell?_setCell_far, hneb, hneb']; done)) (fail)
  all_goals (go_wp2_with fail)
  all_goals exact bodyPost_ret (v := .tuple #[.agg #[.int .i64 0, .bool false, .bool false, .string ⟨#[]⟩, .int .i64 0, .string ⟨#[]⟩, .slice none 0 0, .slice none 0 0], .iface 84 (.pointer (some ⟨kk, 0, none⟩))]) (by simp [results, Tryz.results29, go_sem, hc6]) rfl (parse_no8 rfl hl6.out ⟨_, hbx6.out⟩ hk6.out)
end Go.Proofs.YtmfijfcikecglaaGreatDoor
end
section
set_option linter.unusedVariables false
set_option linter.unusedSimpArgs false
namespace Go.Proofs.YtmfijfcikecglaaGreatDoor
open Go Go.RowKit Go.Proofs.YtmfijfcikecglaaGreatDoorW.PrintWords

set_option maxRecDepth 100000 in
set_option maxHeartbeats 4000000 in
theorem parse_more (E : ErrV) (s : ByteArray) (w : World) (hs : s.size ≤ 1048576) (hP : PEnv E w) (x0 : JV) (j0 : Nat) (hv : valF s 64 (gapTo s 0) = .ok x0 j0) (hend : gapTo s j0 < s.size) :
    Calls Tryz.prog 29 #[.string s] w fun e w' => ParseGives E w (.no (gapTo s j0) .due) e w' := by
  obtain ⟨TT, pp, hsyn⟩ := hP.syn
  have hb := ((Below.refl _ w).alloc (Nat.le_refl _) (.cells #[.int .i64 0, .bool false, .bool false, .string ⟨#[]⟩, .int .i64 0, .string ⟨#[]⟩, .slice none 0 0, .slice none 0 0] 27)).alloc (by simp) (.cells #[.string s, .int .i64 0, .int .i64 0] 82)
  obtain ⟨e0, e1⟩ := boxes w (.cells #[.int .i64 0, .bool false, .bool false, .string ⟨#[]⟩, .int .i64 0, .string ⟨#[]⟩, .slice none 0 0, .slice none 0 0] 27) (.cells #[.string s, .int .i64 0, .int .i64 0] 82)
  have hR0 : RS E w s 0 0 (w.heap.size + 1) ((w.alloc (.cells #[.int .i64 0, .bool false, .bool false, .string ⟨#[]⟩, .int .i64 0, .string ⟨#[]⟩, .slice none 0 0, .slice none 0 0] 27)).alloc (.cells #[.string s, .int .i64 0, .int .i64 0] 82)) := ⟨e1, by omega, hb, hP.errs, hP.facts, hs, Nat.zero_le _⟩
  have hsz2 : (s.size : Int) ≤ 1048576 := by omega
  have cG := gap_r hR0
  have cV := fun (W : World) (hW : RS E w s (gapTo s 0) 0 (w.heap.size + 1) W) => value_any TT pp hsyn 64 (Nat.le_refl _) (gapTo s 0) W hW
  generalize gapTo s 0 = i0 at *
  rw [hv] at cV
  clear hv
  have cG2 := fun (W : World) (hW : RS E w s j0 0 (w.heap.size + 1) W) => gap_r hW
  generalize gapTo s j0 = j1 at *
  replace e0 := Aside0.mk e0
  replace hR0 := Aside0.mk hR0
  replace hP := Aside0.mk hP
  have hend2 : (j1 : Int) < (s.size : Int) := by omega
  go_enter Tryz.func29, Tryz.ntmps29
  go_wp2_with (first
    | (go_at_call 56; refine (cG2 _ hR3.out).mono ?_; rintro e w4 ⟨rfl, hR4, hW4⟩; have hbx4 := Aside0.mk ((hW4.block _ (blk_lt hbx3.out) (by intro e; injection e with e; omega)).trans hbx3.out); have hc4 := cellAll hR4.rd; have hd4 := hR4.er.due_cell)
    | (go_at_call 57; refine (cV _ hR1).mono ?_; rintro e w2 ⟨x, cs, v, rfl, hM, ⟨rfl, rfl, hR2⟩, hW2⟩; obtain ⟨l, f, rfl, hRl, hRf⟩ := kV_openM hM; obtain ⟨Al, cl, rfl⟩ := Kd.R_slice hRl; obtain ⟨Af, cf, rfl⟩ := Kd.R_slice hRf; clear hRl hRf; unfold JV.cells at hM ⊢; replace hM := Aside0.mk hM; have hB3 := (Below.refl w2.heap.size w2).alloc (Nat.le_refl _) (.cells #[.int .i64 x.kind, .bool x.truth, .bool x.neg, .string x.digits, .int .i64 x.exp, .string x.text, .slice Al x.list.length cl, .slice Af x.fields.length cf] 27); have hbx2 := (hW2.block _ (blk_lt hbx1.out) (by intro e; injection e with e; omega)).trans hbx1.out; have hbx3 := Aside0.mk ((hB3.block _ (blk_lt hbx2)).trans hbx2); have hR3 := Aside0.mk (hR2.below hB3); clear hB3 hbx2)
    | (go_at_call 56; refine cG.mono ?_; rintro e w1 ⟨rfl, hR1, hW1⟩; have hbx1 := Aside0.mk ((hW1.block _ (blk_lt e0.out) (by intro e; injection e with e; omega)).trans e0.out)))
  go_region_held3 (fun w' => w'.cell? ⟨w.heap.size + 1, 1, none⟩ = some (.int .i64 j1) ∧ w'.cell? ⟨1, 0, none⟩ = some (.iface 207 (.pointer (some E.due)))) (first | (simp [hc4, hd4]; done) | (simp [*]; done))
    (first | (go_at_call 55; refine (fail_any _ _ _ _).mono ?_; rintro e w9 ⟨v, rfl, ⟨kk, rfl, hk⟩, hb9⟩; have hb10 : Below w4.heap.size w4 w9 := ⟨hb9.os, hb9.tape, hb9.output, hb9.size, hb9.block⟩; have hR9 := hR4.below hb10; have hc9 := cellAll hR9.rd; have hd9 := hR9.er.due_cell; have hbx9 := Aside0.mk ((hb10.block _ (blk_lt hbx4.out)).trans hbx4.out); replace hk := Aside0.mk hk; have hB5 := (Below.refl w9.heap.size w9).alloc (Nat.le_refl _) (.cells #[.pointer none] 84); have hn5 := Aside0.mk (heap_alloc_new w9 (.cells #[.pointer none] 84)); have hR5 := Aside0.mk (hR9.below hB5); have hE5 := Aside0.mk (pw_cell_below hR5.out.low hP.out.et); have hbx5 := Aside0.mk ((hB5.block _ (blk_lt hbx9.out)).trans hbx9.out); have hk5 := Aside0.mk ((hB5.block _ (blk_lt hk.out)).trans hk.out); have hne5 : Aside0 (w.heap.size ≠ w9.heap.size) := ⟨by have := blk_lt hbx9.out; omega⟩; clear hB5))
  all_goals (go_wp2_with (go_at_call 58; refine (as_fault kk w9.heap.size _ hn5.out hE5.out).mono ?_; rintro e w6 ⟨rfl, hf6, hW6⟩; have hcf := cellAll hf6; have hbx6 := (hW6.block _ (blk_lt hbx5.out) (by intro e; injection e with e; exact hne5.out e)).trans hbx5.out; have hc6 := cellAll hbx6; have hfz6 := frozenAll hbx6; replace hf6 := Aside0.mk hf6; replace hbx6 := Aside0.mk hbx6))
  all_goals (have hneb : w.heap.size ≠ w9.heap.size := hne5.out)
  all_goals (have hneb' := Ne.symm hneb)
  all_goals (have hk6 := (hW6.block _ (blk_lt hk5.out) (by intro e; injection e with e; exact blk_ne hk5.out hn5.out (by decide) e)).trans hk5.out)
  all_goals (have hl6 := hR5.out.low.trans (hW6.below (Nat.le_of_lt (blk_lt hbx9.out)) hR5.out.low.size))
  all_goals (replace hk6 := Aside0.mk hk6)
  all_goals (replace hl6 := Aside0.mk hl6)
  all_goals (go_region_held3 (fun w' => w'.cell? ⟨w9.heap.size, 0, none⟩ = some (.pointer (some ⟨kk, 0, none⟩))) (first | (simp [hcf]; done) | (simp [hcf, World.cell?_setCell_far, hneb, hneb']; done)) (fail))
  all_goals (go_wp2_with fail)
  all_goals exact bodyPost_ret (v := .tuple #[.agg #[.int .i64 0, .bool false, .bool false, .string ⟨#[]⟩, .int .i64 0, .string ⟨#[]⟩, .slice none 0 0, .slice none 0 0], .iface 84 (.pointer (some ⟨kk, 0, none⟩))]) (by simp [results, Tryz.results29, go_sem, hc6]) rfl (parse_no8 rfl hl6.out ⟨_, hbx6.out⟩ hk6.out)
end Go.Proofs.YtmfijfcikecglaaGreatDoor
end
section
set_option linter.unusedVariables false
set_option linter.unusedSimpArgs false
namespace Go.Proofs.YtmfijfcikecglaaGreatDoor
open Go Go.RowKit Go.Proofs.YtmfijfcikecglaaGreatDoorW.PrintWords

theorem fault8 {w W : World} {k : Int} {kk b : Nat} {a : Addr} (hbw : b = w.heap.size) (hl : Below w.heap.size w W) (hb : ∃ cs, W.heap[b]? = some (.cells cs 27 (0, 0))) (hk : W.heap[kk]? = some (.cells #[.int .i64 k, .string ⟨#[]⟩, ev a] 88 (0, 0))) :
    ∃ v, Ending.returned (.tuple #[.agg #[.int .i64 0, .bool false, .bool false, .string ⟨#[]⟩, .int .i64 0, .string ⟨#[]⟩, .slice none 0 0, .slice none 0 0], .iface 84 (.pointer (some ⟨kk, 0, none⟩))]) = .returned (.tuple #[.agg nulCells.toArray, v]) ∧ IsFault v k (ev a)
      ((((((((W.setCell ⟨b, 0, none⟩ (.int .i64 0)).setCell ⟨b, 1, none⟩ (.bool false)).setCell ⟨b, 2, none⟩ (.bool false)).setCell ⟨b, 3, none⟩ (.string ⟨#[]⟩)).setCell ⟨b, 4, none⟩ (.int .i64 0)).setCell ⟨b, 5, none⟩ (.string ⟨#[]⟩)).setCell ⟨b, 6, none⟩ (.slice none 0 0)).setCell ⟨b, 7, none⟩ (.slice none 0 0)) ∧
      Below w.heap.size w ((((((((W.setCell ⟨b, 0, none⟩ (.int .i64 0)).setCell ⟨b, 1, none⟩ (.bool false)).setCell ⟨b, 2, none⟩ (.bool false)).setCell ⟨b, 3, none⟩ (.string ⟨#[]⟩)).setCell ⟨b, 4, none⟩ (.int .i64 0)).setCell ⟨b, 5, none⟩ (.string ⟨#[]⟩)).setCell ⟨b, 6, none⟩ (.slice none 0 0)).setCell ⟨b, 7, none⟩ (.slice none 0 0)) := by
  obtain ⟨cs, hb⟩ := hb
  have hne : kk ≠ b := blk_ne hk hb (by decide)
  have h1 := (setCells_far (w := W) (g := b) nulCells 0 kk hne).trans hk
  have h2 := low_setCells hl (Nat.le_of_eq hbw.symm) nulCells 0
  simp only [nulCells, World.setCells] at h1 h2
  exact ⟨_, rfl, ⟨kk, rfl, h1⟩, h2⟩
theorem M_setCells {W : World} {base b : Nat} {x : JV} {cs : List Value} (h : kV.M W base (fun _ => True) x cs) (hb : b < base) (vs : List Value) (j : Nat) : kV.M (W.setCells b j vs) base (fun _ => True) x cs :=
  kV.M_mono (fun _ _ => trivial) (kV.M_move (fun k hk => setCells_far vs j k (by have := hk.2.1; omega)) (kV.M_bound h))
theorem M_read {r : Nat} {W W' : World} {base : Nat} {x : JV} {cs : List Value} (h : kV.M W base (fun _ => True) x cs) (hb : r < base) (hr : Read r W W') : kV.M W' base (fun _ => True) x cs :=
  kV.M_mono (fun _ _ => trivial) (kV.M_move (fun k hk => hr.block k hk.2.2.1 (by intro e; injection e with e; have := hk.2.1; omega)) (kV.M_bound h))
theorem got8 {E : ErrV} {w W : World} {j b : Nat} {x y : JV} {vl vf : Value} (hxy : x = y) (hbw : b = w.heap.size) (hl : Below w.heap.size w W) (hM : kV.M W (b + 1) (fun _ => True) x (x.cells vl vf)) :
    ParseGives E w (.ok y j) (.returned (.tuple #[.agg #[.int .i64 x.kind, .bool x.truth, .bool x.neg, .string x.digits, .int .i64 x.exp, .string x.text, vl, vf], .nilIface]))
      ((((((((W.setCell ⟨b, 0, none⟩ (.int .i64 x.kind)).setCell ⟨b, 1, none⟩ (.bool x.truth)).setCell ⟨b, 2, none⟩ (.bool x.neg)).setCell ⟨b, 3, none⟩ (.string x.digits)).setCell ⟨b, 4, none⟩ (.int .i64 x.exp)).setCell ⟨b, 5, none⟩ (.string x.text)).setCell ⟨b, 6, none⟩ vl).setCell ⟨b, 7, none⟩ vf) := by
  subst hxy
  have h1 := M_setCells hM (Nat.lt_succ_self b) (x.cells vl vf) 0
  have h2 := low_setCells hl (Nat.le_of_eq hbw.symm) (x.cells vl vf) 0
  have e1 : W.setCells b 0 (x.cells vl vf) = ((((((((W.setCell ⟨b, 0, none⟩ (.int .i64 x.kind)).setCell ⟨b, 1, none⟩ (.bool x.truth)).setCell ⟨b, 2, none⟩ (.bool x.neg)).setCell ⟨b, 3, none⟩ (.string x.digits)).setCell ⟨b, 4, none⟩ (.int .i64 x.exp)).setCell ⟨b, 5, none⟩ (.string x.text)).setCell ⟨b, 6, none⟩ vl).setCell ⟨b, 7, none⟩ vf) := by
    simp only [JV.cells, World.setCells]
  rw [e1] at h1 h2
  exact ⟨x.cells vl vf, rfl, kV.M_lower (by omega) h1, h2⟩

set_option maxRecDepth 100000 in
set_option maxHeartbeats 4000000 in
theorem parse_long (E : ErrV) (s : ByteArray) (w : World) (hs : 1048576 < s.size) (hP : PEnv E w) :
    Calls Tryz.prog 29 #[.string s] w fun e w' => ∃ v, e = .returned (.tuple #[.agg nulCells.toArray, v]) ∧ IsFault v 0 (ev E.long) w' ∧ Below w.heap.size w w' := by
  have hs2 : (1048576 : Int) < (s.size : Int) := by omega
  have hB := (Below.refl _ w).alloc (Nat.le_refl _) (.cells #[.int .i64 0, .bool false, .bool false, .string ⟨#[]⟩, .int .i64 0, .string ⟨#[]⟩, .slice none 0 0, .slice none 0 0] 27)
  have hd := (hP.errs.below hB).long_cell
  go_enter Tryz.func29, Tryz.ntmps29
  have hbx := heap_alloc_new w (.cells #[.int .i64 0, .bool false, .bool false, .string ⟨#[]⟩, .int .i64 0, .string ⟨#[]⟩, .slice none 0 0, .slice none 0 0] 27)
  replace hbx := Aside0.mk hbx
  replace hB := Aside0.mk hB
  go_wp2_with (go_at_call 55; refine (fail_any _ _ _ _).mono ?_; rintro e w3 ⟨v, rfl, ⟨kk, rfl, hk⟩, hb3⟩; have hbx3 := (hb3.block _ (blk_lt hbx.out)).trans hbx.out; have hc3 := cellAll hbx3; have hfz3 := frozenAll hbx3; replace hk := Aside0.mk hk; replace hbx3 := Aside0.mk hbx3)
  all_goals exact bodyPost_ret (v := .tuple #[.agg #[.int .i64 0, .bool false, .bool false, .string ⟨#[]⟩, .int .i64 0, .string ⟨#[]⟩, .slice none 0 0, .slice none 0 0], .iface 84 (.pointer (some ⟨kk, 0, none⟩))]) (by simp [results, Tryz.results29, go_sem, hc3]) rfl (fault8 rfl (hB.out.trans (hb3.mono hB.out.size)) ⟨_, hbx3.out⟩ hk.out)

set_option maxRecDepth 100000 in
set_option maxHeartbeats 4000000 in
theorem parse_good (E : ErrV) (s : ByteArray) (w : World) (hs : s.size ≤ 1048576) (hP : PEnv E w) (x0 : JV) (j0 : Nat) (hv : valF s 64 (gapTo s 0) = .ok x0 j0) (hend : ¬ gapTo s j0 < s.size) :
    Calls Tryz.prog 29 #[.string s] w fun e w' => ParseGives E w (.ok x0.norm j0) e w' := by
  obtain ⟨TT, pp, hsyn⟩ := hP.syn
  have hb := ((Below.refl _ w).alloc (Nat.le_refl _) (.cells #[.int .i64 0, .bool false, .bool false, .string ⟨#[]⟩, .int .i64 0, .string ⟨#[]⟩, .slice none 0 0, .slice none 0 0] 27)).alloc (by simp) (.cells #[.string s, .int .i64 0, .int .i64 0] 82)
  obtain ⟨e0, e1⟩ := boxes w (.cells #[.int .i64 0, .bool false, .bool false, .string ⟨#[]⟩, .int .i64 0, .string ⟨#[]⟩, .slice none 0 0, .slice none 0 0] 27) (.cells #[.string s, .int .i64 0, .int .i64 0] 82)
  have hR0 : RS E w s 0 0 (w.heap.size + 1) ((w.alloc (.cells #[.int .i64 0, .bool false, .bool false, .string ⟨#[]⟩, .int .i64 0, .string ⟨#[]⟩, .slice none 0 0, .slice none 0 0] 27)).alloc (.cells #[.string s, .int .i64 0, .int .i64 0] 82)) := ⟨e1, by omega, hb, hP.errs, hP.facts, hs, Nat.zero_le _⟩
  have hsz2 : (s.size : Int) ≤ 1048576 := by omega
  have cG := gap_r hR0
  have cV := fun (W : World) (hW : RS E w s (gapTo s 0) 0 (w.heap.size + 1) W) => value_any TT pp hsyn 64 (Nat.le_refl _) (gapTo s 0) W hW
  have hwt := valF_wt s hs 64 _ _ _ hv
  generalize gapTo s 0 = i0 at *
  rw [hv] at cV
  clear hv
  have cG2 := fun (W : World) (hW : RS E w s j0 0 (w.heap.size + 1) W) => gap_r hW
  generalize gapTo s j0 = j1 at *
  replace e0 := Aside0.mk e0
  replace hR0 := Aside0.mk hR0
  replace hP := Aside0.mk hP
  have hend2 : ¬ ((j1 : Int) < (s.size : Int)) := by omega
  clear hend
  go_enter Tryz.func29, Tryz.ntmps29
  go_wp2_with (first
    | (go_at_call 15; refine (norm_any x _ _ hK5.out hF5.out (by omega) hxi).mono ?_; rintro e w7 ⟨cs7, rfl, hM7, hb7⟩; obtain ⟨l7, f7, rfl, hRl7, hRf7⟩ := kV_openM hM7; obtain ⟨Al7, cl7, rfl⟩ := Kd.R_slice hRl7; obtain ⟨Af7, cf7, rfl⟩ := Kd.R_slice hRf7; clear hRl7 hRf7; have hbx7 := (hb7.block _ (blk_lt hbx5.out)).trans hbx5.out; have hc7 := cellAll hbx7; have hfz7 := frozenAll hbx7; replace hbx7 := Aside0.mk hbx7; replace hM7 := Aside0.mk hM7; unfold JV.cells)
    | (go_at_call 58; refine (as_nil _ _ _).mono ?_; rintro e w6 ⟨rfl, rfl⟩)
    | (go_at_call 56; refine (cG2 _ hR3.out).mono ?_; rintro e w4 ⟨rfl, hR4, hW4⟩; have hbx4 := (hW4.block _ (blk_lt hbx3.out) (by intro e; injection e with e; omega)).trans hbx3.out; have hc4 := cellAll hR4.rd; have hM4 := M_read hM3.out hM3r.out hW4; have hbv4 := (hW4.block _ (blk_lt hbv3.out) (by intro e; injection e with e; exact hv3r.out e.symm)).trans hbv3.out; have hB5 := (Below.refl w4.heap.size w4).alloc (Nat.le_refl _) (.cells #[.pointer none] 84); have hbx5 := Aside0.mk ((hB5.block _ (blk_lt hbx4)).trans hbx4); have hcv5 := cellAll ((hB5.block _ (blk_lt hbv4)).trans hbv4); have hF5 := Aside0.mk (hR4.fct.below hB5); have hK5 := Aside0.mk (kV.K_below hB5 (kV.K_of_M hM4)); have hl5 := Aside0.mk (hR4.low.trans (hB5.mono hR4.low.size)); have hs5 := Aside0.mk (Nat.lt_of_lt_of_le (blk_lt hbx4) hB5.size); clear hB5 hbx4 hbv4 hM4)
    | (go_at_call 57; refine (cV _ hR1).mono ?_; rintro e w2 ⟨x, cs, v, rfl, hM, ⟨rfl, rfl, hR2⟩, hW2⟩; obtain ⟨l, f, rfl, hRl, hRf⟩ := kV_openM hM; obtain ⟨Al, cl, rfl⟩ := Kd.R_slice hRl; obtain ⟨Af, cf, rfl⟩ := Kd.R_slice hRf; clear hRl hRf; have hxw := hwt.1; have hxi := hwt.2; have hjs := hR2.at_le; clear hwt; unfold JV.cells at hM ⊢; have hM3r : Aside0 (w.heap.size + 1 < w1.heap.size) := ⟨hR1.rd.lt⟩; have hB3 := (Below.refl w2.heap.size w2).alloc (Nat.le_refl _) (.cells #[.int .i64 x.kind, .bool x.truth, .bool x.neg, .string x.digits, .int .i64 x.exp, .string x.text, .slice Al x.list.length cl, .slice Af x.fields.length cf] 27); have hM3 := Aside0.mk (kV.M_below hM hB3); have hbv3 := Aside0.mk (heap_alloc_new w2 (.cells #[.int .i64 x.kind, .bool x.truth, .bool x.neg, .string x.digits, .int .i64 x.exp, .string x.text, .slice Al x.list.length cl, .slice Af x.fields.length cf] 27)); have hv3r : Aside0 (w.heap.size + 1 ≠ w2.heap.size) := ⟨Nat.ne_of_lt hR2.rd.lt⟩; have hbx2 := (hW2.block _ (blk_lt hbx1.out) (by intro e; injection e with e; omega)).trans hbx1.out; have hbx3 := Aside0.mk ((hB3.block _ (blk_lt hbx2)).trans hbx2); have hR3 := Aside0.mk (hR2.below hB3); clear hB3 hbx2 hM)
    | (go_at_call 56; refine cG.mono ?_; rintro e w1 ⟨rfl, hR1, hW1⟩; have hbx1 := Aside0.mk ((hW1.block _ (blk_lt e0.out) (by intro e; injection e with e; omega)).trans e0.out)))
  all_goals exact bodyPost_ret (v := .tuple #[.agg #[.int .i64 x.norm.kind, .bool x.norm.truth, .bool x.norm.neg, .string x.norm.digits, .int .i64 x.norm.exp, .string x.norm.text, .slice Al7 x.norm.list.length cl7, .slice Af7 x.norm.fields.length cf7], .nilIface]) (by simp [results, Tryz.results29, go_sem, hc7]) rfl (got8 (x := x.norm) rfl rfl (hl5.out.trans (hb7.mono hl5.out.size)) (kV.M_lower hs5.out hM7.out))
end Go.Proofs.YtmfijfcikecglaaGreatDoor
end
section
set_option linter.unusedVariables false
set_option linter.unusedSimpArgs false
namespace Go.Proofs.YtmfijfcikecglaaGreatDoor
open Go Go.RowKit Go.Proofs.YtmfijfcikecglaaGreatDoorW.PrintWords

/-- **json.Parse** of a text of at most 1 MiB. -/
theorem parse_any (E : ErrV) (s : ByteArray) (w : World) (hs : s.size ≤ 1048576) (hP : PEnv E w) :
    Calls Tryz.prog 29 #[.string s] w fun e w' => ParseGives E w (parseTo s) e w' := by
  unfold parseTo
  cases hv : valF s 64 (gapTo s 0) with
  | no k pe => exact parse_bad E s w hs hP k pe hv
  | ok x j =>
    show Calls Tryz.prog 29 #[.string s] w fun e w' => ParseGives E w (if gapTo s j < s.size then .no (gapTo s j) .due else .ok x.norm j) e w'
    by_cases he : gapTo s j < s.size
    · rw [if_pos he]; exact parse_more E s w hs hP x j hv he
    · rw [if_neg he]; exact parse_good E s w hs hP x j hv he
theorem PEnv.below {E : ErrV} {w w' : World} (h : PEnv E w) (hb : Below w.heap.size w w') : PEnv E w' := by
  obtain ⟨TT, pp, hs⟩ := h.syn
  exact ⟨h.errs.below hb, h.facts.below hb, ⟨TT, pp, pw_cell_below hb hs⟩, pw_cell_below hb h.et⟩

/-- The statements' first text. -/
def text1 : ByteArray := ⟨#[32, 123, 34, 98, 34, 32, 58, 32, 91, 49, 46, 53, 48, 44, 32, 45, 48, 93, 44, 32, 34, 97, 34, 58, 34, 92, 117, 48, 48, 101, 57, 92, 47, 34, 125]⟩
def text2 : ByteArray := ⟨#[91, 49, 44, 93]⟩
def num15 : JV := .mk 2 false false ⟨#[49, 53]⟩ (-1) ⟨#[]⟩ [] []
def num0 : JV := .mk 2 false false ⟨#[]⟩ 0 ⟨#[]⟩ [] []
def val1 : JV := .mk 5 false false ⟨#[]⟩ 0 ⟨#[]⟩ [] [.mk ⟨#[97]⟩ (.mk 3 false false ⟨#[]⟩ 0 ⟨#[195, 169, 47]⟩ [] []), .mk ⟨#[98]⟩ (.mk 4 false false ⟨#[]⟩ 0 ⟨#[]⟩ [num15, num0] [])]
def print1 : ByteArray := ⟨#[123, 34, 97, 34, 58, 34, 195, 169, 47, 34, 44, 34, 98, 34, 58, 91, 49, 53, 101, 45, 49, 44, 48, 93, 125]⟩
theorem parse1 : parseTo text1 = .ok val1 35 := by kernel_rfl
theorem parse2 : parseTo text2 = .no 3 .due := by kernel_rfl
theorem printed1 : (⟨val1.print.toArray⟩ : ByteArray) = print1 := by kernel_rfl
theorem deep1 : val1.norm.deep = 2 := by kernel_rfl
theorem get1 : val1.get_ ⟨#[98]⟩ = (.mk 4 false false ⟨#[]⟩ 0 ⟨#[]⟩ [num15, num0] [], true) := by kernel_rfl
theorem at1 : (JV.mk 4 false false ⟨#[]⟩ 0 ⟨#[]⟩ [num15, num0] []).at_ 1 = (num0, true) := by kernel_rfl
theorem wt1 : val1.wt ≤ 100 := by decide +kernel
end Go.Proofs.YtmfijfcikecglaaGreatDoor
end
section
set_option linter.unusedVariables false
set_option linter.unusedSimpArgs false
namespace Go.Proofs.YtmfijfcikecglaaGreatDoor
open Go Go.RowKit Go.Proofs.YtmfijfcikecglaaGreatDoorW.PrintWords

mutual
/-- Each int is one of 64 bits, each text and row at most as long as may be. -/
def JV.fits : JV → Prop
  | .mk k _ _ d e s l f => (-9223372036854775808 ≤ k ∧ k ≤ 9223372036854775807) ∧ (-9223372036854775808 ≤ e ∧ e ≤ 9223372036854775807) ∧ d.size ≤ 140737488355328 ∧ s.size ≤ 140737488355328 ∧ l.length ≤ 140737488355328 ∧ f.length ≤ 140737488355328 ∧ JV.fitsL l ∧ JV.fitsF f
def JV.fitsL : List JV → Prop
  | [] => True
  | x :: xs => x.fits ∧ JV.fitsL xs
def JV.fitsF : List JF → Prop
  | [] => True
  | .mk nm v :: xs => nm.size ≤ 140737488355328 ∧ v.fits ∧ JV.fitsF xs
end
/-- The count behind a round: m, of which so much is told: p. -/
def Told (m p : Nat) : Prop := m ≤ 1125899906842624 ∧ (m ≤ 4194304 → p ≤ m)

end Go.Proofs.YtmfijfcikecglaaGreatDoor
end
section
set_option linter.unusedVariables false
set_option linter.unusedSimpArgs false
namespace Go.Proofs.YtmfijfcikecglaaGreatDoor
open Go Go.RowKit Go.Proofs.YtmfijfcikecglaaGreatDoorW.PrintWords Go.ChangeShapes Go.WideShapes

theorem cellsOf_str : Tryz.prog.cellsOf 9 = 1 := by kernel_rfl
instance : Inhabited JV := ⟨JV.nul⟩
instance : Inhabited JF := ⟨JF.nul⟩

section
variable {H : Type} {enc : TypeId × Value → H} {w : World} {spare : Nat → Bool} {held : Bool}
/-- No text, no row of a datum is greater than may be. -/
def Sm (t : TypeId) (d : DataW H) : Prop := ∀ n ∈ d.weights Tryz.prog t, n ≤ reachBytes
theorem Sm.str {s : ByteArray} {t : TypeId} (h : Sm t (.lit (.string s.data.toList) : DataW H)) : s.size ≤ reachBytes := by
  have := h s.data.toList.length (by simp [DataW.weights])
  rw [Array.length_toList] at this
  exact this
theorem Sm.part {t : TypeId} {fs : Array Field} {ps : List (DataW H)} (hu : Tryz.prog.underlying t = some (.struct fs)) (h : Sm t (.agg ps)) {j : Nat} {f : Field} {d : DataW H} (hf : fs[j]? = some f) (hd : ps[j]? = some d) : Sm f.type d := fun n hn => by
  refine h n ?_
  rw [DataW.weights, hu]
  exact DataW.weights_mem_each (by simp [hf]) hd n hn
end
end Go.Proofs.YtmfijfcikecglaaGreatDoor
end
section
set_option linter.unusedVariables false
set_option linter.unusedSimpArgs false
namespace Go.Proofs.YtmfijfcikecglaaGreatDoor
open Go Go.RowKit Go.Shelf Go.Lib

theorem star_es : "*errors.errorString" = "*" ++ "errors.errorString" := by decide +kernel
theorem row_es (u : TypeId) (h : Tryz.prog.typeName? 3 u = some "*errors.errorString") : u = 207 :=
  typeName_ptr_named (nm := "errors.errorString") (by rw [← star_es]; kernel_rfl) (by kernel_rfl) (by decide) u (by rw [← star_es]; exact h)
theorem sentinel_mem {W : World} {n : String} {text : List UInt8} {g : Nat} (hg : Tryz.prog.globalNamed n = some g) (ht : (Tryz.prog.globals[g]?).map (·.type) = some 46) : ∀ {l : List (String × DataW Unit)}, laidMet Tryz.prog l W → (n, DataW.iface "*errors.errorString" (.ptr (.agg [.lit (.string text)]))) ∈ l → ∃ a, W.var? Tryz.prog n = some #[ev a]
  | x :: r, h, hm => by
    rcases List.mem_cons.1 hm with rfl | hm
    · obtain ⟨a, s, hv, _⟩ := laid_sentinel h hg ht Tryz.underlying46 row_es Tryz.underlying207 Tryz.underlying209 rfl rfl Tryz.underlying9 (by kernel_rfl) cellsOf_str
      exact ⟨a, hv⟩
    · exact sentinel_mem hg ht h.tail hm
theorem u8x : U8Extra Tryz.prog Tryz.lays196_ren := ⟨by kernel_rfl, by kernel_rfl, by kernel_rfl, by kernel_rfl, by kernel_rfl, by kernel_rfl, by kernel_rfl⟩
theorem oneRowError : ((List.range Tryz.prog.types.size).filter fun t => Tryz.prog.rowNamed t [101, 114, 114, 111, 114]) = [46] := by kernel_rfl
theorem rtypeRow : (Tryz.prog.cutTypes.find? (·.1 == "internal/reflectlite.rtype")).map (·.2) = some 144 := by kernel_rfl
theorem handle_mem {W : World} {hs : List (String × DataW Unit)} (hh : handlesMet Tryz.prog hs W) (hm : ("errors.errorType", Rows.laid_errors_errorType) ∈ hs) : W.cell? ⟨7, 0, none⟩ = some (.iface 144 (.agg #[typeHandle Tryz.prog 46])) := by
  obtain ⟨name, u, ty, e1, e2, e3, e4, e5⟩ := hh _ hm
  have en : name = [101, 114, 114, 111, 114] := (Option.some.inj e1).symm
  subst en
  obtain rfl := Option.some.inj (rtypeRow.symm.trans e2)
  have hm2 : ty ∈ (List.range Tryz.prog.types.size).filter fun t => Tryz.prog.rowNamed t [101, 114, 114, 111, 114] := List.mem_filter.2 ⟨List.mem_range.2 e3, e4⟩
  rw [oneRowError] at hm2
  obtain rfl := List.mem_singleton.1 hm2
  simpa using World.var?_cell (show Tryz.prog.globalNamed "errors.errorType" = some 7 by kernel_rfl) e5 0
theorem accept_eq : (Rows.laid_unicode_utf8_acceptRanges : DataW Unit) = acceptData := by kernel_rfl
theorem pow_eq : (Rows.laid_internal_strconv_uint64pow10 : DataW Unit) = tabData .u64 pow10Tab := by kernel_rfl
theorem pow_of {W : World} (h : VarReads Tryz.prog W "internal/strconv.uint64pow10" (tabData .u64 pow10Tab)) : TabIs Tryz.prog W "internal/strconv.uint64pow10" .u64 pow10Tab := by
  obtain ⟨g', t', cs, fuel, p, hg', ht', hvar, hd⟩ := h
  obtain rfl := Option.some.inj ((show Tryz.prog.globalNamed "internal/strconv.uint64pow10" = some 11 by kernel_rfl).symm.trans hg')
  obtain rfl := Option.some.inj ((show (Tryz.prog.globals[11]?).map (·.type) = some 188 by kernel_rfl).symm.trans ht')
  unfold TabIs
  rw [hvar, ← cells_of_tab Tryz.underlying188 Tryz.underlying167 (by kernel_rfl) (by kernel_rfl) hd]
theorem penv_of {l hs : List (String × DataW Unit)} {W : World} (hd : laidMet Tryz.prog l W) (hh : handlesMet Tryz.prog hs W) (mh : ("errors.errorType", Rows.laid_errors_errorType) ∈ hs)
    (m1 : ("voyage/api.ErrDue", Rows.laid_voyage_api_ErrDue) ∈ l) (m2 : ("voyage/api.ErrLong", Rows.laid_voyage_api_ErrLong) ∈ l) (m3 : ("voyage/api.ErrDeep", Rows.laid_voyage_api_ErrDeep) ∈ l) (m4 : ("voyage/api.ErrTwice", Rows.laid_voyage_api_ErrTwice) ∈ l)
    (m5 : ("voyage/api.ErrText", Rows.laid_voyage_api_ErrText) ∈ l) (m6 : ("voyage/api.ErrNumber", Rows.laid_voyage_api_ErrNumber) ∈ l) (m7 : ("voyage/api.ErrExponent", Rows.laid_voyage_api_ErrExponent) ∈ l) (m8 : ("strconv.ErrSyntax", Rows.laid_strconv_ErrSyntax) ∈ l)
    (m9 : ("unicode/utf8.first", Rows.laid_unicode_utf8_first) ∈ l) (m10 : ("unicode/utf8.acceptRanges", Rows.laid_unicode_utf8_acceptRanges) ∈ l) (m11 : ("internal/strconv.uint64pow10", Rows.laid_internal_strconv_uint64pow10) ∈ l) : ∃ E, PEnv E W := by
  obtain ⟨a1, h1⟩ := sentinel_mem (g := 1) (by kernel_rfl) (by kernel_rfl) hd m1
  obtain ⟨a2, h2⟩ := sentinel_mem (g := 0) (by kernel_rfl) (by kernel_rfl) hd m2
  obtain ⟨a3, h3⟩ := sentinel_mem (g := 5) (by kernel_rfl) (by kernel_rfl) hd m3
  obtain ⟨a4, h4⟩ := sentinel_mem (g := 6) (by kernel_rfl) (by kernel_rfl) hd m4
  obtain ⟨a5, h5⟩ := sentinel_mem (g := 4) (by kernel_rfl) (by kernel_rfl) hd m5
  obtain ⟨a6, h6⟩ := sentinel_mem (g := 2) (by kernel_rfl) (by kernel_rfl) hd m6
  obtain ⟨a7, h7⟩ := sentinel_mem (g := 3) (by kernel_rfl) (by kernel_rfl) hd m7
  obtain ⟨a8, h8⟩ := sentinel_mem (g := 14) (by kernel_rfl) (by kernel_rfl) hd m8
  have r9 : VarReads Tryz.prog W "unicode/utf8.first" firstData := Pinned.utf8First_eq ▸ laidMet.reads hd m9
  have r10 : VarReads Tryz.prog W "unicode/utf8.acceptRanges" acceptData := accept_eq ▸ laidMet.reads hd m10
  have r11 : VarReads Tryz.prog W "internal/strconv.uint64pow10" (tabData .u64 pow10Tab) := pow_eq ▸ laidMet.reads hd m11
  exact ⟨⟨a1, a2, a3, a4, a5, a6, a7⟩, ⟨⟨h1, h2, h3, h4, h5, h6, h7⟩, ⟨utf8Tabs_of_readsT (U8Types.of196 Tryz.lays196) u8x r9 r10, pow_of r11⟩, ⟨_, _, (var_block (by kernel_rfl) h8).2⟩, handle_mem hh mh⟩⟩
end Go.Proofs.YtmfijfcikecglaaGreatDoor
end
section
set_option linter.unusedVariables false
set_option linter.unusedSimpArgs false
namespace Go.Proofs.YtmfijfcikecglaaGreatDoor
open Go Go.RowKit Go.Proofs.YtmfijfcikecglaaGreatDoorW.PrintWords

theorem eq_err (a : Addr) (W : World) : (binOp .eql 46 (.iface 207 (.pointer (some a))) (.iface 207 (.pointer (some a)))).run Tryz.prog W = .ok (.bool true) W := by
  obtain ⟨i, hi, hc⟩ := Option.map_eq_some_iff.1 (show (Tryz.prog.info? 207).map (·.comparable) = some true by kernel_rfl)
  obtain ⟨j, hj, _⟩ := Option.map_eq_some_iff.1 (show (Tryz.prog.info? 209).map (·.size) = some 1 by kernel_rfl)
  exact run_eql_iface_ptr_same W a Tryz.underlying46 Tryz.underlying207 hi hc hj

set_option maxRecDepth 100000 in
set_option maxHeartbeats 4000000 in
theorem place_any (at_ : Int) (a : Addr) (v : Value) (w : World) (hv : IsFault v at_ (ev a) w) (hE : w.cell? ⟨7, 0, none⟩ = some (.iface 144 (.agg #[typeHandle Tryz.prog 46]))) :
    Calls Tryz.prog 30 #[v] w fun e w' => e = .returned (.tuple #[.int .i64 at_, .iface 207 (.pointer (some a))]) ∧ Below w.heap.size w w' := by
  obtain ⟨k, rfl, hk⟩ := hv
  have hB := (Below.refl w.heap.size w).alloc (Nat.le_refl _) (.cells #[.pointer none] 84)
  have hn := heap_alloc_new w (.cells #[.pointer none] 84)
  have hE1 := pw_cell_below hB hE
  have hk1 := (hB.block k (blk_lt hk)).trans hk
  have hne : some k ≠ some w.heap.size := by intro e; injection e with e; have := blk_lt hk; omega
  have cA := as_fault k w.heap.size _ hn hE1
  replace hB := Aside0.mk hB
  replace hk1 := Aside0.mk hk1
  clear hn hE1 hk hE
  go_enter Tryz.func30, Tryz.ntmps30
  go_wp2_with (go_at_call 58; refine cA.mono ?_; rintro e w3 ⟨rfl, hf3, hW3⟩; have hcf := cellAll hf3; have hk3 := (hW3.block _ (blk_lt hk1.out) hne).trans hk1.out; have hck := cellAll hk3; have hB3 := Aside0.mk (hB.out.trans (hW3.below (Nat.le_refl _) hB.out.size)); replace hf3 := Aside0.mk hf3; replace hk3 := Aside0.mk hk3; unfold ev at hck)
  go_quiet (fail)
  go_wp2_with fail
  go_ret2
  exact ⟨rfl, pw_below_drewN hB3.out _⟩
end Go.Proofs.YtmfijfcikecglaaGreatDoor
end
section
set_option linter.unusedVariables false
set_option linter.unusedSimpArgs false
namespace Go.Proofs.YtmfijfcikecglaaGreatDoor
open Go Go.RowKit Go.Proofs.YtmfijfcikecglaaGreatDoorW.PrintWords

/-- Each error variable's address lies in plain memory. -/
def ErrB (E : ErrV) (w : World) : Prop := ∀ a ∈ [E.due, E.long, E.deep, E.twice, E.text, E.number, E.exponent], ∃ c t, w.heap[a.block]? = some (.cells c t (0, 0))
theorem ErrB.below {E : ErrV} {w w' : World} (h : ErrB E w) (hb : Below w.heap.size w w') : ErrB E w' := fun a ha => by
  obtain ⟨c, t, hc⟩ := h a ha
  exact ⟨c, t, (hb.block _ (blk_lt hc)).trans hc⟩
/-- Two of the errors are compared by their addresses. -/
theorem eq_errs (a b : Addr) (W : World) {ca cb : Array Value} {ta tb : TypeId} (ha : W.heap[a.block]? = some (.cells ca ta (0, 0))) (hb : W.heap[b.block]? = some (.cells cb tb (0, 0))) :
    (binOp .eql 46 (.iface 207 (.pointer (some a))) (.iface 207 (.pointer (some b)))).run Tryz.prog W = .ok (.bool (decide (a = b))) W := by
  by_cases h : a = b
  · subst h
    rw [decide_eq_true rfl]
    exact eq_err a W
  · obtain ⟨i, hi, hc⟩ := Option.map_eq_some_iff.1 (show (Tryz.prog.info? 207).map (·.comparable) = some true by kernel_rfl)
    obtain ⟨j, hj, hs⟩ := Option.map_eq_some_iff.1 (show (Tryz.prog.info? 209).map (·.size) = some 1 by kernel_rfl)
    rw [decide_eq_false h]
    exact run_eql_iface_ptr_other W Tryz.underlying46 Tryz.underlying207 hi hc hj (by rw [hs]; decide) h ha hb

set_option maxRecDepth 100000 in
set_option maxHeartbeats 4000000 in
theorem code_any (E : ErrV) (a : Addr) (w : World) (ha : a ∈ [E.due, E.long, E.deep, E.twice, E.text, E.number, E.exponent]) (hE : Errs E w) (hB : ErrB E w) :
    Calls Tryz.prog 31 #[.iface 207 (.pointer (some a))] w fun e w' => ∃ k : Int, e = .returned (.int .i64 k) ∧ 0 < k ∧ Below w.heap.size w w' := by
  obtain ⟨ca, ta, hca⟩ := hB a ha
  obtain ⟨c1, t1, h1⟩ := hB E.long (by simp)
  obtain ⟨c2, t2, h2⟩ := hB E.number (by simp)
  obtain ⟨c3, t3, h3⟩ := hB E.exponent (by simp)
  obtain ⟨c4, t4, h4⟩ := hB E.text (by simp)
  obtain ⟨c5, t5, h5⟩ := hB E.due (by simp)
  obtain ⟨c6, t6, h6⟩ := hB E.deep (by simp)
  obtain ⟨c7, t7, h7⟩ := hB E.twice (by simp)
  have e1 := eq_errs a E.long w hca h1
  have e2 := eq_errs a E.number w hca h2
  have e3 := eq_errs a E.exponent w hca h3
  have e4 := eq_errs a E.text w hca h4
  have e5 := eq_errs a E.due w hca h5
  have e6 := eq_errs a E.deep w hca h6
  have e7 := eq_errs a E.twice w hca h7
  have l1 := hE.long_cell
  have l2 := hE.number_cell
  have l3 := hE.exponent_cell
  have l4 := hE.text_cell
  have l5 := hE.due_cell
  have l6 := hE.deep_cell
  have l7 := hE.twice_cell
  have hor : decide (a = E.long) = true ∨ decide (a = E.number) = true ∨ decide (a = E.exponent) = true ∨ decide (a = E.text) = true ∨ decide (a = E.due) = true ∨ decide (a = E.deep) = true ∨ decide (a = E.twice) = true := by
    simp only [List.mem_cons, List.not_mem_nil, or_false] at ha
    simp only [decide_eq_true_eq]
    rcases ha with h | h | h | h | h | h | h
    · exact .inr (.inr (.inr (.inr (.inl h))))
    · exact .inl h
    · exact .inr (.inr (.inr (.inr (.inr (.inl h)))))
    · exact .inr (.inr (.inr (.inr (.inr (.inr h)))))
    · exact .inr (.inr (.inr (.inl h)))
    · exact .inr (.inl h)
    · exact .inr (.inr (.inl h))
  generalize decide (a = E.long) = b1 at *
  generalize decide (a = E.number) = b2 at *
  generalize decide (a = E.exponent) = b3 at *
  generalize decide (a = E.text) = b4 at *
  generalize decide (a = E.due) = b5 at *
  generalize decide (a = E.deep) = b6 at *
  generalize decide (a = E.twice) = b7 at *
  replace hor := Aside0.mk hor
  clear hB hE ha hca h1 h2 h3 h4 h5 h6 h7
  go_enter Tryz.func31, Tryz.ntmps31
  go_wp2_with fail
  all_goals (first
    | (go_ret; exact ⟨_, rfl, by decide, Below.refl _ _⟩)
    | (exfalso; have := hor.out; simp_all))
end Go.Proofs.YtmfijfcikecglaaGreatDoor
end
