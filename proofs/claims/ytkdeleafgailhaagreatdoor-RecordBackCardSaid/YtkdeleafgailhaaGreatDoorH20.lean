/- What json's reader gives is of a bounded weight, each of its ints one of 64 bits. json.Parse: what it gives; a text at whose value a fault stands. json.Parse: a text behind whose value something stands. json.Parse: a text too long; a text that is read. json.Parse, whole; its answers at the statements' two constant texts. voyagelaw02.many, heavy: what is not heavy has a weight of at most 2^22. What reads as data at api.Value is a value: from a row's reading to kV.K. From what a row lists of the package-level variables to what the contracts ask. An argument that is a slice of ints, or an int: what a row's reading says of it. -/
import Derived.Test.YtkdeleafgailhaaGreatDoorH19
import Derived.Test.YtkdeleafgailhaaGreatDoorH11
import Derived.Test.YtkdeleafgailhaaGreatDoorH10
import Derived.Deep.Cut
import Derived.Deep.CutRange
import Derived.BigQuiet
import Derived.Deep.QuietTactic
import Derived.StillTailTactics
import Derived.Deep.Strs
import Derived.Deep.Slices
import Derived.ProofKit
import Derived.SizedLaws
import Derived.Test.YtkdeleafgailhaaGreatDoorRows
import Derived.Stop.LaidErr
import Derived.Lib.LaidU8T
import Derived.LaidHandle
import Derived.Lay
import Derived.PinnedBridge
import Derived.OpenShut
section
set_option linter.unusedVariables false
set_option linter.unusedSimpArgs false
namespace Go.Proofs.YtkdeleafgailhaaGreatDoor
open Go Go.RowKit Go.Proofs.YtkdeleafgailhaaGreatDoorW.PrintWords

theorem textF_wt (s : ByteArray) : ∀ (n i : Nat) (acc l : List UInt8) (j : Nat), textF s n i acc = .ok l j → l.length + 4 * i ≤ acc.length + 4 * j
  | 0, i, acc, l, j, h => by rw [textF] at h; cases h
  | n + 1, i, acc, l, j, h => by
    rw [textF] at h
    split at h
    · injection h with h1 h; subst h1; omega
    · split at h
      · cases h
      · rename_i h1 h2
        have h3 := textF_wt s n _ _ l j h
        have h4 := letter_len (letAt s i).1 [] 0 1 (by simp) (by omega)
        rw [List.length_append] at h3
        simp only [List.nil_append] at h4
        omega
theorem textAt_wt {s : ByteArray} {i : Nat} {l : List UInt8} {j : Nat} (h : textAt s i = .ok l j) : l.length + 4 * (i + 1) ≤ 4 * j := by
  have := textF_wt s _ _ _ _ _ h
  simpa using this
theorem numTo_size (s : ByteArray) : ∀ (n i : Nat), i ≤ s.size → numTo s n i ≤ s.size
  | 0, i, h => h
  | n + 1, i, h => by
    rw [numTo]
    split
    · exact numTo_size s n (i + 1) (by omega)
    · exact h
theorem decParse_b {s : ByteArray} (hs : s.size ≤ 1048576) {d : Dec} (h : decParse s = .ok d) : d.digits.size ≤ s.size ∧ -9999 ≤ d.exp ∧ d.exp ≤ 9999 := by
  unfold decParse at h
  have hb := numeral_b hs
  generalize numeral s = r at h hb
  match r, h, hb with
  | some (neg, bs, x), h, hb =>
    have h1 := (hb neg bs x rfl).1
    simp only at h
    split at h
    · injection h with h
      subst h
      have h2 := decForm_bounds neg (strOfNums bs) x
      rw [strOfNums_size] at h2
      exact ⟨by omega, h2.2.1, h2.2.2⟩
    · cases h
theorem numberAt_wt {s : ByteArray} (hs : s.size ≤ 1048576) {i : Nat} {x : JV} {j : Nat} (h : numberAt s i = .ok x j) : x.wt + i ≤ 1 + j ∧ x.ints := by
  unfold numberAt at h
  split at h
  · rename_i d hd
    injection h with h h2
    have he := numTo_le s (s.size + 1) i
    rw [h2] at he hd
    have hz : (s.extract i j).size ≤ j - i := by rw [ByteArray.size_extract]; omega
    have hz2 : (s.extract i j).size ≤ s.size := by rw [ByteArray.size_extract]; omega
    have hb := decParse_b (by omega) hd
    subst h
    refine ⟨?_, ?_⟩
    · rw [JV.wt, JV.wtL, JV.wtF]
      show 1 + d.digits.size + 0 + 0 + 0 + i ≤ 1 + j
      omega
    · rw [JV.ints, JV.intsL, JV.intsF]
      exact ⟨by omega, by omega, trivial, trivial⟩
  · cases h
theorem numberAt_le {s : ByteArray} {i : Nat} {x : JV} {j : Nat} (h : numberAt s i = .ok x j) : i ≤ j := by
  unfold numberAt at h
  split at h
  · injection h with _ h
    have := numTo_le s (s.size + 1) i
    omega
  · cases h
theorem sevF_wt {σ : Type} (s : ByteArray) (c : Nat) (each : Nat → σ → PR σ) (m : σ → Nat) (P : σ → Prop) (hw : ∀ i x y j, each i x = .ok y j → P x → m y + 8 * i ≤ m x + 8 * j + 8 ∧ P y) : ∀ (n i : Nat) (x y : σ) (j : Nat), sevF s c each n i x = .ok y j → P x → m y + 8 * i ≤ m x + 8 * j ∧ P y
  | 0, i, x, y, j, h, hp => by rw [sevF] at h; cases h
  | n + 1, i, x, y, j, h, hp => by
    rw [sevF] at h
    cases he : each i x with
    | no k e => rw [he] at h; cases h
    | ok z k =>
      rw [he] at h
      simp only at h
      obtain ⟨h1, hz⟩ := hw _ _ _ _ he hp
      have h2 := gapTo_le s k
      have h3 := gapTo_le s (gapTo s k + 1)
      split at h
      · obtain ⟨h4, h5⟩ := sevF_wt s c each m P hw n _ _ _ _ h hz
        exact ⟨by omega, h5⟩
      · split at h
        · injection h with h0 h; subst h0; exact ⟨by omega, hz⟩
        · cases h
theorem sevAt_wt {σ : Type} (s : ByteArray) (c : Nat) (each : Nat → σ → PR σ) (m : σ → Nat) (P : σ → Prop) (hw : ∀ i x y j, each i x = .ok y j → P x → m y + 8 * i ≤ m x + 8 * j + 8 ∧ P y) {i : Nat} {x y : σ} {j : Nat} (h : sevAt s c each i x = .ok y j) (hp : P x) : m y + 8 * i + 8 ≤ m x + 8 * j ∧ P y := by
  unfold sevAt at h
  have h1 := gapTo_le s (i + 1)
  split at h
  · injection h with h0 h; subst h0; exact ⟨by omega, hp⟩
  · obtain ⟨h4, h5⟩ := sevF_wt s c each m P hw _ _ _ _ _ h hp
    exact ⟨by omega, h5⟩
theorem wtL_snoc (a : List JV) (x : JV) : JV.wtL (a ++ [x]) = JV.wtL a + (1 + x.wt) := by
  rw [wtL_app, JV.wtL, JV.wtL]; omega
theorem wtF_snoc (a : List JF) (nm : ByteArray) (x : JV) : JV.wtF (a ++ [.mk nm x]) = JV.wtF a + (1 + nm.size + x.wt) := by
  rw [wtF_app, JV.wtF, JV.wtF]; omega
theorem intsL_app : ∀ (a : List JV) (x : JV), JV.intsL a → x.ints → JV.intsL (a ++ [x])
  | [], x, _, h => by show JV.intsL [x]; rw [JV.intsL, JV.intsL]; exact ⟨h, trivial⟩
  | y :: a, x, ha, h => by
    rw [JV.intsL] at ha
    show JV.intsL (y :: (a ++ [x]))
    rw [JV.intsL]
    exact ⟨ha.1, intsL_app a x ha.2 h⟩
theorem intsF_app : ∀ (a : List JF) (nm : ByteArray) (x : JV), JV.intsF a → x.ints → JV.intsF (a ++ [.mk nm x])
  | [], nm, x, _, h => by show JV.intsF [.mk nm x]; rw [JV.intsF, JV.intsF]; exact ⟨h, trivial⟩
  | .mk n2 y :: a, nm, x, ha, h => by
    rw [JV.intsF] at ha
    show JV.intsF (.mk n2 y :: (a ++ [.mk nm x]))
    rw [JV.intsF]
    exact ⟨ha.1, intsF_app a nm x ha.2 h⟩
/-- A reading of a value by its places. -/
def ReadWt (val : Nat → PR JV) : Prop := ∀ i x j, val i = .ok x j → x.wt + 8 * i ≤ 8 * j + 1 ∧ x.ints
theorem itemL_wt {val : Nat → PR JV} (hv : ReadWt val) (i : Nat) (xs ys : List JV) (j : Nat) (h : itemL val i xs = .ok ys j) (hp : JV.intsL xs) : JV.wtL ys + 8 * i ≤ JV.wtL xs + 8 * j + 8 ∧ JV.intsL ys := by
  unfold itemL at h
  cases hx : val i with
  | no k e => rw [hx] at h; cases h
  | ok x k =>
    rw [hx] at h
    injection h with h0 h
    subst h0 h
    obtain ⟨h1, h2⟩ := hv _ _ _ hx
    rw [wtL_snoc]
    exact ⟨by omega, intsL_app _ _ hp h2⟩
theorem fieldAt_wt {s : ByteArray} {val : Nat → PR JV} (hv : ReadWt val) (i : Nat) (fs gs : List JF) (j : Nat) (h : fieldAt s val i fs = .ok gs j) (hp : JV.intsF fs) : JV.wtF gs + 8 * i ≤ JV.wtF fs + 8 * j + 8 ∧ JV.intsF gs := by
  unfold fieldAt at h
  split at h
  · cases ht : textAt s i with
    | no k e => rw [ht] at h; cases h
    | ok l k =>
      rw [ht] at h
      simp only at h
      have h1 := textAt_wt ht
      split at h
      · cases h
      · split at h
        · cases hx : val (gapTo s (gapTo s k + 1)) with
          | no k2 e => rw [hx] at h; cases h
          | ok x k2 =>
            rw [hx] at h
            obtain ⟨h2, h2'⟩ := hv _ _ _ hx
            have h3 := gapTo_le s (gapTo s k + 1)
            have h4 := gapTo_le s k
            unfold fieldOf at h
            injection h with h5 h6
            subst h5 h6
            rw [wtF_snoc]
            refine ⟨?_, intsF_app _ _ _ hp h2'⟩
            have hl : (ByteArray.mk l.toArray).size = l.length := by show l.toArray.size = _; simp
            rw [hl]
            omega
        · cases h
  · cases h
theorem textVal_wt {s : ByteArray} {i : Nat} {x : JV} {j : Nat} (h : textVal s i = .ok x j) : x.wt + 8 * i ≤ 8 * j + 1 ∧ x.ints := by
  unfold textVal at h
  cases ht : textAt s i with
  | no k e => rw [ht] at h; cases h
  | ok l k =>
    rw [ht] at h
    injection h with h0 h
    have h1 := textAt_wt ht
    have h2 := textAt_adv ht
    subst h0 h
    have hl : (ByteArray.mk l.toArray).size = l.length := by show l.toArray.size = _; simp
    refine ⟨?_, ?_⟩
    · rw [JV.wt, JV.wtL, JV.wtF, hl]
      show 1 + 0 + l.length + 0 + 0 + 8 * i ≤ _
      omega
    · rw [JV.ints, JV.intsL, JV.intsF]
      exact ⟨by omega, by omega, trivial, trivial⟩
theorem litAt_wt {s : ByteArray} {i : Nat} {x : JV} {j : Nat} (h : litAt s i = .ok x j) : x.wt + 8 * i ≤ 8 * j + 1 ∧ x.ints := by
  unfold litAt at h
  repeat' split at h
  all_goals (first | (injection h with h0 h; subst h0 h; unfold JV.nul; rw [JV.wt, JV.wtL, JV.wtF, JV.ints, JV.intsL, JV.intsF]; refine ⟨?_, by omega, by omega, trivial, trivial⟩; show 1 + 0 + 0 + 0 + 0 + 8 * i ≤ _; omega) | (injection h with h0 h; subst h0 h; rw [JV.wt, JV.wtL, JV.wtF, JV.ints, JV.intsL, JV.intsF]; refine ⟨?_, by omega, by omega, trivial, trivial⟩; show 1 + 0 + 0 + 0 + 0 + 8 * i ≤ _; omega) | cases h)
theorem valWith_wt {s : ByteArray} (hs : s.size ≤ 1048576) {lst obj : PR JV} {i : Nat} (hl : ∀ x j, lst = .ok x j → x.wt + 8 * i ≤ 8 * j + 1 ∧ x.ints) (ho : ∀ x j, obj = .ok x j → x.wt + 8 * i ≤ 8 * j + 1 ∧ x.ints) {x : JV} {j : Nat} (h : valWith s lst obj i = .ok x j) : x.wt + 8 * i ≤ 8 * j + 1 ∧ x.ints := by
  unfold valWith at h
  split at h
  · exact hl _ _ h
  · split at h
    · exact ho _ _ h
    · split at h
      · exact textVal_wt h
      · split at h
        · have h1 := numberAt_wt hs h
          have h2 := numberAt_le h
          exact ⟨by omega, h1.2⟩
        · exact litAt_wt h
theorem valF_wt (s : ByteArray) (hs : s.size ≤ 1048576) : ∀ (D : Nat), ReadWt (valF s D)
  | 0, i, x, j, h => by
    rw [valF] at h
    exact valWith_wt hs (fun x j h => by cases h) (fun x j h => by cases h) h
  | D + 1, i, x, j, h => by
    rw [valF] at h
    refine valWith_wt hs (fun x j h => ?_) (fun x j h => ?_) h
    · cases hp : sevAt s 93 (itemL (valF s D)) i [] with
      | no k e => rw [hp] at h; cases h
      | ok xs k =>
        rw [hp] at h
        injection h with h0 h
        obtain ⟨h1, h2⟩ := sevAt_wt s 93 _ JV.wtL JV.intsL (itemL_wt (valF_wt s hs D)) hp (by rw [JV.intsL]; trivial)
        subst h0 h
        rw [JV.wtL] at h1
        refine ⟨?_, ?_⟩
        · rw [JV.wt, JV.wtF]
          show 1 + 0 + 0 + JV.wtL xs + 0 + 8 * i ≤ _
          omega
        · rw [JV.ints, JV.intsF]
          exact ⟨by omega, by omega, h2, trivial⟩
    · cases hp : sevAt s 125 (fieldAt s (valF s D)) i [] with
      | no k e => rw [hp] at h; cases h
      | ok xs k =>
        rw [hp] at h
        injection h with h0 h
        obtain ⟨h1, h2⟩ := sevAt_wt s 125 _ JV.wtF JV.intsF (fieldAt_wt (valF_wt s hs D)) hp (by rw [JV.intsF]; trivial)
        subst h0 h
        rw [JV.wtF] at h1
        refine ⟨?_, ?_⟩
        · rw [JV.wt, JV.wtL]
          show 1 + 0 + 0 + 0 + JV.wtF xs + 8 * i ≤ _
          omega
        · rw [JV.ints, JV.intsL]
          exact ⟨by omega, by omega, trivial, h2⟩
end Go.Proofs.YtkdeleafgailhaaGreatDoor
end
section
set_option linter.unusedVariables false
set_option linter.unusedSimpArgs false
namespace Go.Proofs.YtkdeleafgailhaaGreatDoor
open Go Go.RowKit Go.Proofs.YtkdeleafgailhaaGreatDoorW.PrintWords

def parseTo (s : ByteArray) : PR JV := match valF s 64 (gapTo s 0) with
  | .no k e => .no k e
  | .ok x j => if gapTo s j < s.size then .no (gapTo s j) .due else .ok x.norm j
/-- What Parse reads of the library and of the package api. -/
structure PEnv (E : ErrV) (w : World) : Prop where
  errs : Errs E w
  facts : Facts w
  syn : ∃ TT pp, w.cell? ⟨14, 0, none⟩ = some (.iface TT pp)
  et : w.cell? ⟨4, 0, none⟩ = some (.iface 167 (.agg #[typeHandle Tryz.prog 51]))
def ParseGives (E : ErrV) (w : World) : PR JV → Ending → World → Prop
  | .ok x _, e, w' => ∃ cs, e = .returned (.tuple #[.agg cs.toArray, .nilIface]) ∧ kV.M w' w.heap.size (fun _ => True) x cs ∧ Below w.heap.size w w'
  | .no k pe, e, w' => ∃ v, e = .returned (.tuple #[.agg nulCells.toArray, v]) ∧ IsFault v k (ev (E.at_ pe)) w' ∧ Below w.heap.size w w'

theorem low_setCells {B b : Nat} {w W : World} (h : Below B w W) (hb : B ≤ b) (vs : List Value) (j : Nat) : Below B w (W.setCells b j vs) := by
  obtain ⟨s1, s2, s3, s4⟩ := setCells_same b vs j W
  exact h.trans ⟨s1, s2, s3, by rw [s4]; exact Nat.le_refl _, fun k hk => setCells_far vs j k (by omega)⟩
theorem parse_ne {W : World} {B k kk : Nat} {v : Value} (hb : ∃ cs, W.heap[B]? = some (.cells cs 27 (0, 0))) (hk : W.heap[kk]? = some (.cells #[.int .i64 k, .string ⟨#[]⟩, v] 98 (0, 0))) : kk ≠ B := by
  obtain ⟨cs, hb⟩ := hb
  exact blk_ne hk hb (by decide)
theorem parse_at {W : World} {B k kk : Nat} {v : Value} (hne : kk ≠ B) (hk : W.heap[kk]? = some (.cells #[.int .i64 k, .string ⟨#[]⟩, v] 98 (0, 0))) : (W.setCells B 0 nulCells).heap[kk]? = some (.cells #[.int .i64 k, .string ⟨#[]⟩, v] 98 (0, 0)) := by
  rw [setCells_far _ _ _ hne]; exact hk
theorem parse_gives_no {E : ErrV} {w W : World} {k kk : Nat} {pe : PE} (hl : Below w.heap.size w W) (hk : W.heap[kk]? = some (.cells #[.int .i64 k, .string ⟨#[]⟩, ev (E.at_ pe)] 98 (0, 0))) :
    ParseGives E w (.no k pe) (.returned (.tuple #[.agg nulCells.toArray, .iface 94 (.pointer (some ⟨kk, 0, none⟩))])) W := by
  unfold ParseGives
  exact ⟨_, rfl, ⟨kk, rfl, hk⟩, hl⟩
theorem parse_no {E : ErrV} {w W : World} {k kk : Nat} {pe : PE} (hl : Below w.heap.size w W) (hb : ∃ cs, W.heap[w.heap.size]? = some (.cells cs 27 (0, 0))) (hk : W.heap[kk]? = some (.cells #[.int .i64 k, .string ⟨#[]⟩, ev (E.at_ pe)] 98 (0, 0))) :
    ParseGives E w (.no k pe) (.returned (.tuple #[.agg nulCells.toArray, .iface 94 (.pointer (some ⟨kk, 0, none⟩))])) (W.setCells w.heap.size 0 nulCells) :=
  parse_gives_no (low_setCells hl (Nat.le_refl _) _ _) (parse_at (parse_ne hb hk) hk)

theorem ParseGives.drew {E : ErrV} {w W : World} {r : PR JV} {e : Ending} (h : ParseGives E w r e W) : ParseGives E w r e W.drew := by
  cases r with
  | ok x j =>
    obtain ⟨cs, h1, h2, h3⟩ := h
    exact ⟨cs, h1, kV.M_below h2 (below_drew (Below.refl _ _)), below_drew h3⟩
  | no k pe =>
    obtain ⟨v, h1, ⟨kk, h2, h3⟩, h4⟩ := h
    exact ⟨v, h1, ⟨kk, h2, h3⟩, below_drew h4⟩
theorem parse_no8 {E : ErrV} {w W : World} {k kk b : Nat} {pe : PE} (hbw : b = w.heap.size) (hl : Below w.heap.size w W) (hb : ∃ cs, W.heap[b]? = some (.cells cs 27 (0, 0))) (hk : W.heap[kk]? = some (.cells #[.int .i64 k, .string ⟨#[]⟩, ev (E.at_ pe)] 98 (0, 0))) :
    ParseGives E w (.no k pe) (.returned (.tuple #[.agg #[.int .i64 0, .bool false, .bool false, .string ⟨#[]⟩, .int .i64 0, .string ⟨#[]⟩, .slice none 0 0, .slice none 0 0], .iface 94 (.pointer (some ⟨kk, 0, none⟩))]))
      ((((((((W.setCell ⟨b, 0, none⟩ (.int .i64 0)).setCell ⟨b, 1, none⟩ (.bool false)).setCell ⟨b, 2, none⟩ (.bool false)).setCell ⟨b, 3, none⟩ (.string ⟨#[]⟩)).setCell ⟨b, 4, none⟩ (.int .i64 0)).setCell ⟨b, 5, none⟩ (.string ⟨#[]⟩)).setCell ⟨b, 6, none⟩ (.slice none 0 0)).setCell ⟨b, 7, none⟩ (.slice none 0 0)).drew := by
  subst hbw
  have h := parse_no hl hb hk
  simp only [nulCells, World.setCells] at h
  exact h.drew

set_option maxRecDepth 100000 in
set_option maxHeartbeats 4000000 in
theorem parse_bad (E : ErrV) (s : ByteArray) (w : World) (hs : s.size ≤ 1048576) (hP : PEnv E w) (k : Nat) (pe : PE) (hv : valF s 64 (gapTo s 0) = .no k pe) :
    Calls Tryz.prog 27 #[.string s] w fun e w' => ParseGives E w (.no k pe) e w' := by
  obtain ⟨TT, pp, hsyn⟩ := hP.syn
  have hb := ((Below.refl _ w).alloc (Nat.le_refl _) (.cells #[.int .i64 0, .bool false, .bool false, .string ⟨#[]⟩, .int .i64 0, .string ⟨#[]⟩, .slice none 0 0, .slice none 0 0] 27)).alloc (by simp) (.cells #[.string s, .int .i64 0, .int .i64 0] 92)
  obtain ⟨e0, e1⟩ := boxes w (.cells #[.int .i64 0, .bool false, .bool false, .string ⟨#[]⟩, .int .i64 0, .string ⟨#[]⟩, .slice none 0 0, .slice none 0 0] 27) (.cells #[.string s, .int .i64 0, .int .i64 0] 92)
  have hR0 : RS E w s 0 0 (w.heap.size + 1) ((w.alloc (.cells #[.int .i64 0, .bool false, .bool false, .string ⟨#[]⟩, .int .i64 0, .string ⟨#[]⟩, .slice none 0 0, .slice none 0 0] 27)).alloc (.cells #[.string s, .int .i64 0, .int .i64 0] 92)) := ⟨e1, by omega, hb, hP.errs, hP.facts, hs, Nat.zero_le _⟩
  have hsz2 : (s.size : Int) ≤ 1048576 := by omega
  have cG := gap_r hR0
  have cV := fun (W : World) (hW : RS E w s (gapTo s 0) 0 (w.heap.size + 1) W) => value_any TT pp hsyn 64 (Nat.le_refl _) (gapTo s 0) W hW
  generalize gapTo s 0 = i0 at *
  rw [hv] at cV
  clear hv
  replace e0 := Aside0.mk e0
  replace hR0 := Aside0.mk hR0
  replace hP := Aside0.mk hP
  go_enter Tryz.func27, Tryz.ntmps27
  go_wp2_with (first
    | (go_at_call 59; refine (as_fault kk w4.heap.size _ hn5.out hE5.out).mono ?_; rintro e w6 ⟨rfl, hf6, hW6⟩; have hcf := cellAll hf6; have hbx6 := (hW6.block _ (blk_lt hbx5.out) (by intro e; injection e with e; exact hne5.out e)).trans hbx5.out; have hc6 := cellAll hbx6; have hfz6 := frozenAll hbx6; replace hf6 := Aside0.mk hf6; replace hbx6 := Aside0.mk hbx6)
    | (go_at_call 57; refine (gap_r hR3.out).mono ?_; rintro e w4 ⟨rfl, hR4, hW4⟩; have hbx4 := (hW4.block _ (blk_lt hbx3.out) (by intro e; injection e with e; omega)).trans hbx3.out; have hk4 := Aside0.mk ((hW4.block _ (blk_lt hk3.out) (by intro e; injection e with e; exact hkr.out e)).trans hk3.out); have hB5 := (Below.refl w4.heap.size w4).alloc (Nat.le_refl _) (.cells #[.pointer none] 94); have hn5 := Aside0.mk (heap_alloc_new w4 (.cells #[.pointer none] 94)); have hR5 := Aside0.mk (hR4.below hB5); have hE5 := Aside0.mk (pw_cell_below hR5.out.low hP.out.et); have hbx5 := Aside0.mk ((hB5.block _ (blk_lt hbx4)).trans hbx4); have hk5 := Aside0.mk ((hB5.block _ (blk_lt hk4.out)).trans hk4.out); have hne5 : Aside0 (w.heap.size ≠ w4.heap.size) := ⟨by have := blk_lt hbx4; omega⟩; clear hB5 hbx4)
    | (go_at_call 58; refine (cV _ hR1).mono ?_; rintro e w2 ⟨x, cs, v, rfl, hM, ⟨⟨kk, rfl, hk⟩, j', o', hR2⟩, hW2⟩; obtain ⟨l, f, rfl, hRl, hRf⟩ := kV_openM hM; obtain ⟨Al, cl, rfl⟩ := Kd.R_slice hRl; obtain ⟨Af, cf, rfl⟩ := Kd.R_slice hRf; clear hRl hRf; unfold JV.cells at hM ⊢; replace hM := Aside0.mk hM; have hB3 := (Below.refl w2.heap.size w2).alloc (Nat.le_refl _) (.cells #[.int .i64 x.kind, .bool x.truth, .bool x.neg, .string x.digits, .int .i64 x.exp, .string x.text, .slice Al x.list.length cl, .slice Af x.fields.length cf] 27); have hkr := Aside0.mk (blk_ne hk hR2.rd (by decide)); have hk3 := Aside0.mk ((hB3.block _ (blk_lt hk)).trans hk); have hbx2 := (hW2.block _ (blk_lt hbx1.out) (by intro e; injection e with e; omega)).trans hbx1.out; have hbx3 := Aside0.mk ((hB3.block _ (blk_lt hbx2)).trans hbx2); have hR3 := Aside0.mk (hR2.below hB3); clear hB3 hbx2 hk)
    | (go_at_call 57; refine cG.mono ?_; rintro e w1 ⟨rfl, hR1, hW1⟩; have hbx1 := Aside0.mk ((hW1.block _ (blk_lt e0.out) (by intro e; injection e with e; omega)).trans e0.out)))
  have hneb : w.heap.size ≠ w4.heap.size := hne5.out
  have hneb' := Ne.symm hneb
  have hk6 := (hW6.block _ (blk_lt hk5.out) (by intro e; injection e with e; exact blk_ne hk5.out hn5.out (by decide) e)).trans hk5.out
  have hl6 := hR5.out.low.trans (hW6.below (Nat.le_of_lt (by have := blk_lt hbx5.out; have := hR4.rd.lt; omega)) (hR5.out.low.size))
  replace hk6 := Aside0.mk hk6
  replace hl6 := Aside0.mk hl6
  go_region_held3 (fun w' => w'.cell? ⟨w4.heap.size, 0, none⟩ = some (.pointer (some ⟨kk, 0, none⟩))) (first | (simp [hcf]; done) | (simp [hcf, World.cell?_setCell_far, hneb, hneb']; done)) (fail)
  all_goals (go_wp2_with fail)
  all_goals exact bodyPost_ret (v := .tuple #[.agg #[.int .i64 0, .bool false, .bool false, .string ⟨#[]⟩, .int .i64 0, .string ⟨#[]⟩, .slice none 0 0, .slice none 0 0], .iface 94 (.pointer (some ⟨kk, 0, none⟩))]) (by simp [results, Tryz.results27, go_sem, hc6]) rfl (parse_no8 rfl hl6.out ⟨_, hbx6.out⟩ hk6.out)
end Go.Proofs.YtkdeleafgailhaaGreatDoor
end
section
set_option linter.unusedVariables false
set_option linter.unusedSimpArgs false
namespace Go.Proofs.YtkdeleafgailhaaGreatDoor
open Go Go.RowKit Go.Proofs.YtkdeleafgailhaaGreatDoorW.PrintWords

set_option maxRecDepth 100000 in
set_option maxHeartbeats 4000000 in
theorem parse_more (E : ErrV) (s : ByteArray) (w : World) (hs : s.size ≤ 1048576) (hP : PEnv E w) (x0 : JV) (j0 : Nat) (hv : valF s 64 (gapTo s 0) = .ok x0 j0) (hend : gapTo s j0 < s.size) :
    Calls Tryz.prog 27 #[.string s] w fun e w' => ParseGives E w (.no (gapTo s j0) .due) e w' := by
  obtain ⟨TT, pp, hsyn⟩ := hP.syn
  have hb := ((Below.refl _ w).alloc (Nat.le_refl _) (.cells #[.int .i64 0, .bool false, .bool false, .string ⟨#[]⟩, .int .i64 0, .string ⟨#[]⟩, .slice none 0 0, .slice none 0 0] 27)).alloc (by simp) (.cells #[.string s, .int .i64 0, .int .i64 0] 92)
  obtain ⟨e0, e1⟩ := boxes w (.cells #[.int .i64 0, .bool false, .bool false, .string ⟨#[]⟩, .int .i64 0, .string ⟨#[]⟩, .slice none 0 0, .slice none 0 0] 27) (.cells #[.string s, .int .i64 0, .int .i64 0] 92)
  have hR0 : RS E w s 0 0 (w.heap.size + 1) ((w.alloc (.cells #[.int .i64 0, .bool false, .bool false, .string ⟨#[]⟩, .int .i64 0, .string ⟨#[]⟩, .slice none 0 0, .slice none 0 0] 27)).alloc (.cells #[.string s, .int .i64 0, .int .i64 0] 92)) := ⟨e1, by omega, hb, hP.errs, hP.facts, hs, Nat.zero_le _⟩
  have hsz2 : (s.size : Int) ≤ 1048576 := by omega
  have cG := gap_r hR0
  have cV := fun (W : World) (hW : RS E w s (gapTo s 0) 0 (w.heap.size + 1) W) => value_any TT pp hsyn 64 (Nat.le_refl _) (gapTo s 0) W hW
  generalize gapTo s 0 = i0 at *
  rw [hv] at cV
  clear hv
  have cG2 := fun (W : World) (hW : RS E w s j0 0 (w.heap.size + 1) W) => gap_r hW
  generalize gapTo s j0 = j1 at *
  replace e0 := Aside0.mk e0
  replace hR0 := Aside0.mk hR0
  replace hP := Aside0.mk hP
  have hend2 : (j1 : Int) < (s.size : Int) := by omega
  go_enter Tryz.func27, Tryz.ntmps27
  go_wp2_with (first
    | (go_at_call 57; refine (cG2 _ hR3.out).mono ?_; rintro e w4 ⟨rfl, hR4, hW4⟩; have hbx4 := Aside0.mk ((hW4.block _ (blk_lt hbx3.out) (by intro e; injection e with e; omega)).trans hbx3.out); have hc4 := cellAll hR4.rd; have hd4 := hR4.er.due_cell)
    | (go_at_call 58; refine (cV _ hR1).mono ?_; rintro e w2 ⟨x, cs, v, rfl, hM, ⟨rfl, rfl, hR2⟩, hW2⟩; obtain ⟨l, f, rfl, hRl, hRf⟩ := kV_openM hM; obtain ⟨Al, cl, rfl⟩ := Kd.R_slice hRl; obtain ⟨Af, cf, rfl⟩ := Kd.R_slice hRf; clear hRl hRf; unfold JV.cells at hM ⊢; replace hM := Aside0.mk hM; have hB3 := (Below.refl w2.heap.size w2).alloc (Nat.le_refl _) (.cells #[.int .i64 x.kind, .bool x.truth, .bool x.neg, .string x.digits, .int .i64 x.exp, .string x.text, .slice Al x.list.length cl, .slice Af x.fields.length cf] 27); have hbx2 := (hW2.block _ (blk_lt hbx1.out) (by intro e; injection e with e; omega)).trans hbx1.out; have hbx3 := Aside0.mk ((hB3.block _ (blk_lt hbx2)).trans hbx2); have hR3 := Aside0.mk (hR2.below hB3); clear hB3 hbx2)
    | (go_at_call 57; refine cG.mono ?_; rintro e w1 ⟨rfl, hR1, hW1⟩; have hbx1 := Aside0.mk ((hW1.block _ (blk_lt e0.out) (by intro e; injection e with e; omega)).trans e0.out)))
  go_region_held3 (fun w' => w'.cell? ⟨w.heap.size + 1, 1, none⟩ = some (.int .i64 j1) ∧ w'.cell? ⟨1, 0, none⟩ = some (.iface 228 (.pointer (some E.due)))) (first | (simp [hc4, hd4]; done) | (simp [*]; done))
    (first | (go_at_call 56; refine (fail_any _ _ _ _).mono ?_; rintro e w9 ⟨v, rfl, ⟨kk, rfl, hk⟩, hb9⟩; have hb10 : Below w4.heap.size w4 w9 := ⟨hb9.os, hb9.tape, hb9.output, hb9.size, hb9.block⟩; have hR9 := hR4.below hb10; have hc9 := cellAll hR9.rd; have hd9 := hR9.er.due_cell; have hbx9 := Aside0.mk ((hb10.block _ (blk_lt hbx4.out)).trans hbx4.out); replace hk := Aside0.mk hk; have hB5 := (Below.refl w9.heap.size w9).alloc (Nat.le_refl _) (.cells #[.pointer none] 94); have hn5 := Aside0.mk (heap_alloc_new w9 (.cells #[.pointer none] 94)); have hR5 := Aside0.mk (hR9.below hB5); have hE5 := Aside0.mk (pw_cell_below hR5.out.low hP.out.et); have hbx5 := Aside0.mk ((hB5.block _ (blk_lt hbx9.out)).trans hbx9.out); have hk5 := Aside0.mk ((hB5.block _ (blk_lt hk.out)).trans hk.out); have hne5 : Aside0 (w.heap.size ≠ w9.heap.size) := ⟨by have := blk_lt hbx9.out; omega⟩; clear hB5))
  all_goals (go_wp2_with (go_at_call 59; refine (as_fault kk w9.heap.size _ hn5.out hE5.out).mono ?_; rintro e w6 ⟨rfl, hf6, hW6⟩; have hcf := cellAll hf6; have hbx6 := (hW6.block _ (blk_lt hbx5.out) (by intro e; injection e with e; exact hne5.out e)).trans hbx5.out; have hc6 := cellAll hbx6; have hfz6 := frozenAll hbx6; replace hf6 := Aside0.mk hf6; replace hbx6 := Aside0.mk hbx6))
  all_goals (have hneb : w.heap.size ≠ w9.heap.size := hne5.out)
  all_goals (have hneb' := Ne.symm hneb)
  all_goals (have hk6 := (hW6.block _ (blk_lt hk5.out) (by intro e; injection e with e; exact blk_ne hk5.out hn5.out (by decide) e)).trans hk5.out)
  all_goals (have hl6 := hR5.out.low.trans (hW6.below (Nat.le_of_lt (blk_lt hbx9.out)) hR5.out.low.size))
  all_goals (replace hk6 := Aside0.mk hk6)
  all_goals (replace hl6 := Aside0.mk hl6)
  all_goals (go_region_held3 (fun w' => w'.cell? ⟨w9.heap.size, 0, none⟩ = some (.pointer (some ⟨kk, 0, none⟩))) (first | (simp [hcf]; done) | (simp [hcf, World.cell?_setCell_far, hneb, hneb']; done)) (fail))
  all_goals (go_wp2_with fail)
  all_goals exact bodyPost_ret (v := .tuple #[.agg #[.int .i64 0, .bool false, .bool false, .string ⟨#[]⟩, .int .i64 0, .string ⟨#[]⟩, .slice none 0 0, .slice none 0 0], .iface 94 (.pointer (some ⟨kk, 0, none⟩))]) (by simp [results, Tryz.results27, go_sem, hc6]) rfl (parse_no8 rfl hl6.out ⟨_, hbx6.out⟩ hk6.out)
end Go.Proofs.YtkdeleafgailhaaGreatDoor
end
section
set_option linter.unusedVariables false
set_option linter.unusedSimpArgs false
namespace Go.Proofs.YtkdeleafgailhaaGreatDoor
open Go Go.RowKit Go.Proofs.YtkdeleafgailhaaGreatDoorW.PrintWords

theorem fault8 {w W : World} {k : Int} {kk b : Nat} {a : Addr} (hbw : b = w.heap.size) (hl : Below w.heap.size w W) (hb : ∃ cs, W.heap[b]? = some (.cells cs 27 (0, 0))) (hk : W.heap[kk]? = some (.cells #[.int .i64 k, .string ⟨#[]⟩, ev a] 98 (0, 0))) :
    ∃ v, Ending.returned (.tuple #[.agg #[.int .i64 0, .bool false, .bool false, .string ⟨#[]⟩, .int .i64 0, .string ⟨#[]⟩, .slice none 0 0, .slice none 0 0], .iface 94 (.pointer (some ⟨kk, 0, none⟩))]) = .returned (.tuple #[.agg nulCells.toArray, v]) ∧ IsFault v k (ev a)
      ((((((((W.setCell ⟨b, 0, none⟩ (.int .i64 0)).setCell ⟨b, 1, none⟩ (.bool false)).setCell ⟨b, 2, none⟩ (.bool false)).setCell ⟨b, 3, none⟩ (.string ⟨#[]⟩)).setCell ⟨b, 4, none⟩ (.int .i64 0)).setCell ⟨b, 5, none⟩ (.string ⟨#[]⟩)).setCell ⟨b, 6, none⟩ (.slice none 0 0)).setCell ⟨b, 7, none⟩ (.slice none 0 0)) ∧
      Below w.heap.size w ((((((((W.setCell ⟨b, 0, none⟩ (.int .i64 0)).setCell ⟨b, 1, none⟩ (.bool false)).setCell ⟨b, 2, none⟩ (.bool false)).setCell ⟨b, 3, none⟩ (.string ⟨#[]⟩)).setCell ⟨b, 4, none⟩ (.int .i64 0)).setCell ⟨b, 5, none⟩ (.string ⟨#[]⟩)).setCell ⟨b, 6, none⟩ (.slice none 0 0)).setCell ⟨b, 7, none⟩ (.slice none 0 0)) := by
  obtain ⟨cs, hb⟩ := hb
  have hne : kk ≠ b := blk_ne hk hb (by decide)
  have h1 := (setCells_far (w := W) (g := b) nulCells 0 kk hne).trans hk
  have h2 := low_setCells hl (Nat.le_of_eq hbw.symm) nulCells 0
  simp only [nulCells, World.setCells] at h1 h2
  exact ⟨_, rfl, ⟨kk, rfl, h1⟩, h2⟩
theorem M_setCells {W : World} {base b : Nat} {x : JV} {cs : List Value} (h : kV.M W base (fun _ => True) x cs) (hb : b < base) (vs : List Value) (j : Nat) : kV.M (W.setCells b j vs) base (fun _ => True) x cs :=
  kV.M_mono (fun _ _ => trivial) (kV.M_move (fun k hk => setCells_far vs j k (by have := hk.2.1; omega)) (kV.M_bound h))
theorem M_read {r : Nat} {W W' : World} {base : Nat} {x : JV} {cs : List Value} (h : kV.M W base (fun _ => True) x cs) (hb : r < base) (hr : Read r W W') : kV.M W' base (fun _ => True) x cs :=
  kV.M_mono (fun _ _ => trivial) (kV.M_move (fun k hk => hr.block k hk.2.2.1 (by intro e; injection e with e; have := hk.2.1; omega)) (kV.M_bound h))
theorem got8 {E : ErrV} {w W : World} {j b : Nat} {x y : JV} {vl vf : Value} (hxy : x = y) (hbw : b = w.heap.size) (hl : Below w.heap.size w W) (hM : kV.M W (b + 1) (fun _ => True) x (x.cells vl vf)) :
    ParseGives E w (.ok y j) (.returned (.tuple #[.agg #[.int .i64 x.kind, .bool x.truth, .bool x.neg, .string x.digits, .int .i64 x.exp, .string x.text, vl, vf], .nilIface]))
      ((((((((W.setCell ⟨b, 0, none⟩ (.int .i64 x.kind)).setCell ⟨b, 1, none⟩ (.bool x.truth)).setCell ⟨b, 2, none⟩ (.bool x.neg)).setCell ⟨b, 3, none⟩ (.string x.digits)).setCell ⟨b, 4, none⟩ (.int .i64 x.exp)).setCell ⟨b, 5, none⟩ (.string x.text)).setCell ⟨b, 6, none⟩ vl).setCell ⟨b, 7, none⟩ vf) := by
  subst hxy
  have h1 := M_setCells hM (Nat.lt_succ_self b) (x.cells vl vf) 0
  have h2 := low_setCells hl (Nat.le_of_eq hbw.symm) (x.cells vl vf) 0
  have e1 : W.setCells b 0 (x.cells vl vf) = ((((((((W.setCell ⟨b, 0, none⟩ (.int .i64 x.kind)).setCell ⟨b, 1, none⟩ (.bool x.truth)).setCell ⟨b, 2, none⟩ (.bool x.neg)).setCell ⟨b, 3, none⟩ (.string x.digits)).setCell ⟨b, 4, none⟩ (.int .i64 x.exp)).setCell ⟨b, 5, none⟩ (.string x.text)).setCell ⟨b, 6, none⟩ vl).setCell ⟨b, 7, none⟩ vf) := by
    simp only [JV.cells, World.setCells]
  rw [e1] at h1 h2
  exact ⟨x.cells vl vf, rfl, kV.M_lower (by omega) h1, h2⟩

set_option maxRecDepth 100000 in
set_option maxHeartbeats 4000000 in
theorem parse_long (E : ErrV) (s : ByteArray) (w : World) (hs : 1048576 < s.size) (hP : PEnv E w) :
    Calls Tryz.prog 27 #[.string s] w fun e w' => ∃ v, e = .returned (.tuple #[.agg nulCells.toArray, v]) ∧ IsFault v 0 (ev E.long) w' ∧ Below w.heap.size w w' := by
  have hs2 : (1048576 : Int) < (s.size : Int) := by omega
  have hB := (Below.refl _ w).alloc (Nat.le_refl _) (.cells #[.int .i64 0, .bool false, .bool false, .string ⟨#[]⟩, .int .i64 0, .string ⟨#[]⟩, .slice none 0 0, .slice none 0 0] 27)
  have hd := (hP.errs.below hB).long_cell
  go_enter Tryz.func27, Tryz.ntmps27
  have hbx := heap_alloc_new w (.cells #[.int .i64 0, .bool false, .bool false, .string ⟨#[]⟩, .int .i64 0, .string ⟨#[]⟩, .slice none 0 0, .slice none 0 0] 27)
  replace hbx := Aside0.mk hbx
  replace hB := Aside0.mk hB
  go_wp2_with (go_at_call 56; refine (fail_any _ _ _ _).mono ?_; rintro e w3 ⟨v, rfl, ⟨kk, rfl, hk⟩, hb3⟩; have hbx3 := (hb3.block _ (blk_lt hbx.out)).trans hbx.out; have hc3 := cellAll hbx3; have hfz3 := frozenAll hbx3; replace hk := Aside0.mk hk; replace hbx3 := Aside0.mk hbx3)
  all_goals exact bodyPost_ret (v := .tuple #[.agg #[.int .i64 0, .bool false, .bool false, .string ⟨#[]⟩, .int .i64 0, .string ⟨#[]⟩, .slice none 0 0, .slice none 0 0], .iface 94 (.pointer (some ⟨kk, 0, none⟩))]) (by simp [results, Tryz.results27, go_sem, hc3]) rfl (fault8 rfl (hB.out.trans (hb3.mono hB.out.size)) ⟨_, hbx3.out⟩ hk.out)

set_option maxRecDepth 100000 in
set_option maxHeartbeats 4000000 in
theorem parse_good (E : ErrV) (s : ByteArray) (w : World) (hs : s.size ≤ 1048576) (hP : PEnv E w) (x0 : JV) (j0 : Nat) (hv : valF s 64 (gapTo s 0) = .ok x0 j0) (hend : ¬ gapTo s j0 < s.size) :
    Calls Tryz.prog 27 #[.string s] w fun e w' => ParseGives E w (.ok x0.norm j0) e w' := by
  obtain ⟨TT, pp, hsyn⟩ := hP.syn
  have hb := ((Below.refl _ w).alloc (Nat.le_refl _) (.cells #[.int .i64 0, .bool false, .bool false, .string ⟨#[]⟩, .int .i64 0, .string ⟨#[]⟩, .slice none 0 0, .slice none 0 0] 27)).alloc (by simp) (.cells #[.string s, .int .i64 0, .int .i64 0] 92)
  obtain ⟨e0, e1⟩ := boxes w (.cells #[.int .i64 0, .bool false, .bool false, .string ⟨#[]⟩, .int .i64 0, .string ⟨#[]⟩, .slice none 0 0, .slice none 0 0] 27) (.cells #[.string s, .int .i64 0, .int .i64 0] 92)
  have hR0 : RS E w s 0 0 (w.heap.size + 1) ((w.alloc (.cells #[.int .i64 0, .bool false, .bool false, .string ⟨#[]⟩, .int .i64 0, .string ⟨#[]⟩, .slice none 0 0, .slice none 0 0] 27)).alloc (.cells #[.string s, .int .i64 0, .int .i64 0] 92)) := ⟨e1, by omega, hb, hP.errs, hP.facts, hs, Nat.zero_le _⟩
  have hsz2 : (s.size : Int) ≤ 1048576 := by omega
  have cG := gap_r hR0
  have cV := fun (W : World) (hW : RS E w s (gapTo s 0) 0 (w.heap.size + 1) W) => value_any TT pp hsyn 64 (Nat.le_refl _) (gapTo s 0) W hW
  have hwt := valF_wt s hs 64 _ _ _ hv
  generalize gapTo s 0 = i0 at *
  rw [hv] at cV
  clear hv
  have cG2 := fun (W : World) (hW : RS E w s j0 0 (w.heap.size + 1) W) => gap_r hW
  generalize gapTo s j0 = j1 at *
  replace e0 := Aside0.mk e0
  replace hR0 := Aside0.mk hR0
  replace hP := Aside0.mk hP
  have hend2 : ¬ ((j1 : Int) < (s.size : Int)) := by omega
  clear hend
  go_enter Tryz.func27, Tryz.ntmps27
  go_wp2_with (first
    | (go_at_call 9; refine (norm_any x _ _ hK5.out hF5.out (by omega) hxi).mono ?_; rintro e w7 ⟨cs7, rfl, hM7, hb7⟩; obtain ⟨l7, f7, rfl, hRl7, hRf7⟩ := kV_openM hM7; obtain ⟨Al7, cl7, rfl⟩ := Kd.R_slice hRl7; obtain ⟨Af7, cf7, rfl⟩ := Kd.R_slice hRf7; clear hRl7 hRf7; have hbx7 := (hb7.block _ (blk_lt hbx5.out)).trans hbx5.out; have hc7 := cellAll hbx7; have hfz7 := frozenAll hbx7; replace hbx7 := Aside0.mk hbx7; replace hM7 := Aside0.mk hM7; unfold JV.cells)
    | (go_at_call 59; refine (as_nil _ _ _).mono ?_; rintro e w6 ⟨rfl, rfl⟩)
    | (go_at_call 57; refine (cG2 _ hR3.out).mono ?_; rintro e w4 ⟨rfl, hR4, hW4⟩; have hbx4 := (hW4.block _ (blk_lt hbx3.out) (by intro e; injection e with e; omega)).trans hbx3.out; have hc4 := cellAll hR4.rd; have hM4 := M_read hM3.out hM3r.out hW4; have hbv4 := (hW4.block _ (blk_lt hbv3.out) (by intro e; injection e with e; exact hv3r.out e.symm)).trans hbv3.out; have hB5 := (Below.refl w4.heap.size w4).alloc (Nat.le_refl _) (.cells #[.pointer none] 94); have hbx5 := Aside0.mk ((hB5.block _ (blk_lt hbx4)).trans hbx4); have hcv5 := cellAll ((hB5.block _ (blk_lt hbv4)).trans hbv4); have hF5 := Aside0.mk (hR4.fct.below hB5); have hK5 := Aside0.mk (kV.K_below hB5 (kV.K_of_M hM4)); have hl5 := Aside0.mk (hR4.low.trans (hB5.mono hR4.low.size)); have hs5 := Aside0.mk (Nat.lt_of_lt_of_le (blk_lt hbx4) hB5.size); clear hB5 hbx4 hbv4 hM4)
    | (go_at_call 58; refine (cV _ hR1).mono ?_; rintro e w2 ⟨x, cs, v, rfl, hM, ⟨rfl, rfl, hR2⟩, hW2⟩; obtain ⟨l, f, rfl, hRl, hRf⟩ := kV_openM hM; obtain ⟨Al, cl, rfl⟩ := Kd.R_slice hRl; obtain ⟨Af, cf, rfl⟩ := Kd.R_slice hRf; clear hRl hRf; have hxw := hwt.1; have hxi := hwt.2; have hjs := hR2.at_le; clear hwt; unfold JV.cells at hM ⊢; have hM3r : Aside0 (w.heap.size + 1 < w1.heap.size) := ⟨hR1.rd.lt⟩; have hB3 := (Below.refl w2.heap.size w2).alloc (Nat.le_refl _) (.cells #[.int .i64 x.kind, .bool x.truth, .bool x.neg, .string x.digits, .int .i64 x.exp, .string x.text, .slice Al x.list.length cl, .slice Af x.fields.length cf] 27); have hM3 := Aside0.mk (kV.M_below hM hB3); have hbv3 := Aside0.mk (heap_alloc_new w2 (.cells #[.int .i64 x.kind, .bool x.truth, .bool x.neg, .string x.digits, .int .i64 x.exp, .string x.text, .slice Al x.list.length cl, .slice Af x.fields.length cf] 27)); have hv3r : Aside0 (w.heap.size + 1 ≠ w2.heap.size) := ⟨Nat.ne_of_lt hR2.rd.lt⟩; have hbx2 := (hW2.block _ (blk_lt hbx1.out) (by intro e; injection e with e; omega)).trans hbx1.out; have hbx3 := Aside0.mk ((hB3.block _ (blk_lt hbx2)).trans hbx2); have hR3 := Aside0.mk (hR2.below hB3); clear hB3 hbx2 hM)
    | (go_at_call 57; refine cG.mono ?_; rintro e w1 ⟨rfl, hR1, hW1⟩; have hbx1 := Aside0.mk ((hW1.block _ (blk_lt e0.out) (by intro e; injection e with e; omega)).trans e0.out)))
  all_goals exact bodyPost_ret (v := .tuple #[.agg #[.int .i64 x.norm.kind, .bool x.norm.truth, .bool x.norm.neg, .string x.norm.digits, .int .i64 x.norm.exp, .string x.norm.text, .slice Al7 x.norm.list.length cl7, .slice Af7 x.norm.fields.length cf7], .nilIface]) (by simp [results, Tryz.results27, go_sem, hc7]) rfl (got8 (x := x.norm) rfl rfl (hl5.out.trans (hb7.mono hl5.out.size)) (kV.M_lower hs5.out hM7.out))
end Go.Proofs.YtkdeleafgailhaaGreatDoor
end
section
set_option linter.unusedVariables false
set_option linter.unusedSimpArgs false
namespace Go.Proofs.YtkdeleafgailhaaGreatDoor
open Go Go.RowKit Go.Proofs.YtkdeleafgailhaaGreatDoorW.PrintWords

/-- **json.Parse** of a text of at most 1 MiB. -/
theorem parse_any (E : ErrV) (s : ByteArray) (w : World) (hs : s.size ≤ 1048576) (hP : PEnv E w) :
    Calls Tryz.prog 27 #[.string s] w fun e w' => ParseGives E w (parseTo s) e w' := by
  unfold parseTo
  cases hv : valF s 64 (gapTo s 0) with
  | no k pe => exact parse_bad E s w hs hP k pe hv
  | ok x j =>
    show Calls Tryz.prog 27 #[.string s] w fun e w' => ParseGives E w (if gapTo s j < s.size then .no (gapTo s j) .due else .ok x.norm j) e w'
    by_cases he : gapTo s j < s.size
    · rw [if_pos he]; exact parse_more E s w hs hP x j hv he
    · rw [if_neg he]; exact parse_good E s w hs hP x j hv he
theorem PEnv.below {E : ErrV} {w w' : World} (h : PEnv E w) (hb : Below w.heap.size w w') : PEnv E w' := by
  obtain ⟨TT, pp, hs⟩ := h.syn
  exact ⟨h.errs.below hb, h.facts.below hb, ⟨TT, pp, pw_cell_below hb hs⟩, pw_cell_below hb h.et⟩

end Go.Proofs.YtkdeleafgailhaaGreatDoor
end
section
set_option linter.unusedVariables false
set_option linter.unusedSimpArgs false
namespace Go.Proofs.YtkdeleafgailhaaGreatDoor
open Go Go.RowKit Go.Proofs.YtkdeleafgailhaaGreatDoorW.PrintWords

mutual
/-- Each int is one of 64 bits, each text and row at most as long as may be. -/
def JV.fits : JV → Prop
  | .mk k _ _ d e s l f => (-9223372036854775808 ≤ k ∧ k ≤ 9223372036854775807) ∧ (-9223372036854775808 ≤ e ∧ e ≤ 9223372036854775807) ∧ d.size ≤ 140737488355328 ∧ s.size ≤ 140737488355328 ∧ l.length ≤ 140737488355328 ∧ f.length ≤ 140737488355328 ∧ JV.fitsL l ∧ JV.fitsF f
def JV.fitsL : List JV → Prop
  | [] => True
  | x :: xs => x.fits ∧ JV.fitsL xs
def JV.fitsF : List JF → Prop
  | [] => True
  | .mk nm v :: xs => nm.size ≤ 140737488355328 ∧ v.fits ∧ JV.fitsF xs
end
mutual
theorem fits_ints : ∀ (x : JV), x.fits → x.ints
  | .mk k t n d e s l f, h => by
    rw [JV.fits] at h
    rw [JV.ints]
    exact ⟨h.1, h.2.1, fitsL_ints l h.2.2.2.2.2.2.1, fitsF_ints f h.2.2.2.2.2.2.2⟩
theorem fitsL_ints : ∀ (l : List JV), JV.fitsL l → JV.intsL l
  | [], _ => by rw [JV.intsL]; trivial
  | x :: l, h => by rw [JV.fitsL] at h; rw [JV.intsL]; exact ⟨fits_ints x h.1, fitsL_ints l h.2⟩
theorem fitsF_ints : ∀ (l : List JF), JV.fitsF l → JV.intsF l
  | [], _ => by rw [JV.intsF]; trivial
  | .mk nm v :: l, h => by rw [JV.fitsF] at h; rw [JV.intsF]; exact ⟨fits_ints v h.2.1, fitsF_ints l h.2.2⟩
end
theorem fits_memL : ∀ {l : List JV} {y : JV}, y ∈ l → JV.fitsL l → y.fits
  | x :: l, y, h, hi => by
    rw [JV.fitsL] at hi
    rcases List.mem_cons.1 h with rfl | h
    · exact hi.1
    · exact fits_memL h hi.2
theorem fits_memF : ∀ {l : List JF} {y : JF}, y ∈ l → JV.fitsF l → y.name.size ≤ 140737488355328 ∧ y.value.fits
  | .mk nm v :: l, y, h, hi => by
    rw [JV.fitsF] at hi
    rcases List.mem_cons.1 h with rfl | h
    · exact ⟨hi.1, hi.2.1⟩
    · exact fits_memF h hi.2.2

/-- The count behind a round: m, of which so much is told: p. -/
def Told (m p : Nat) : Prop := m ≤ 1125899906842624 ∧ (m ≤ 4194304 → p ≤ m)

end Go.Proofs.YtkdeleafgailhaaGreatDoor
end
section
set_option linter.unusedVariables false
set_option linter.unusedSimpArgs false
namespace Go.Proofs.YtkdeleafgailhaaGreatDoor
open Go Go.RowKit Go.Proofs.YtkdeleafgailhaaGreatDoorW.PrintWords Go.ChangeShapes Go.WideShapes

theorem cellsOf_V : Tryz.prog.cellsOf 27 = 8 := by kernel_rfl
theorem cellsOf_F : Tryz.prog.cellsOf 69 = 9 := by kernel_rfl
theorem cellsOf_D : Tryz.prog.cellsOf 23 = 3 := by kernel_rfl
theorem cellsOf_int : Tryz.prog.cellsOf 3 = 1 := by kernel_rfl
theorem cellsOf_bool : Tryz.prog.cellsOf 4 = 1 := by kernel_rfl
theorem cellsOf_str : Tryz.prog.cellsOf 9 = 1 := by kernel_rfl
theorem cellsOf_lV : Tryz.prog.cellsOf 24 = 1 := by kernel_rfl
theorem cellsOf_lF : Tryz.prog.cellsOf 25 = 1 := by kernel_rfl
instance : Inhabited JV := ⟨JV.nul⟩
instance : Inhabited JF := ⟨JF.nul⟩

section
variable {H : Type} {enc : TypeId × Value → H} {w : World} {spare : Nat → Bool} {held : Bool}
/-- No text, no row of a datum is greater than may be. -/
def Sm (t : TypeId) (d : DataW H) : Prop := ∀ n ∈ d.weights Tryz.prog t, n ≤ reachBytes
theorem weights_all {e : TypeId} : ∀ {l : List (DataW H)} {d : DataW H}, d ∈ l → ∀ n ∈ d.weights Tryz.prog e, n ∈ DataW.weightsAll Tryz.prog e l
  | x :: l, d, h, n, hn => by
    rw [DataW.weightsAll, List.mem_append]
    rcases List.mem_cons.1 h with rfl | h
    · exact .inl hn
    · exact .inr (weights_all h n hn)
theorem Sm.str {s : ByteArray} {t : TypeId} (h : Sm t (.lit (.string s.data.toList) : DataW H)) : s.size ≤ reachBytes := by
  have := h s.data.toList.length (by simp [DataW.weights])
  rw [Array.length_toList] at this
  exact this
theorem Sm.part {t : TypeId} {fs : Array Field} {ps : List (DataW H)} (hu : Tryz.prog.underlying t = some (.struct fs)) (h : Sm t (.agg ps)) {j : Nat} {f : Field} {d : DataW H} (hf : fs[j]? = some f) (hd : ps[j]? = some d) : Sm f.type d := fun n hn => by
  refine h n ?_
  rw [DataW.weights, hu]
  exact DataW.weights_mem_each (by simp [hf]) hd n hn
theorem trod_row {α : Type} [Inhabited α] {t e : TypeId} {sz fuel B : Nat} {cs : List Value} {x : DataW H × List MemPlace} (R : α → List Value → Prop) (G : α → Prop) (ht : Tryz.prog.underlying t = some (.slice e)) (hc : Tryz.prog.cellsOf e = sz) (hB : Tryz.prog.bytesOf e = B) (hB0 : 0 < B)
    (h : DataW.trod enc Tryz.prog w 0 spare held fuel t cs = some x) (hsm : Sm t x.1) (ih : ∀ n, n < fuel → ∀ cs y, DataW.trod enc Tryz.prog w 0 spare held n e cs = some y → Sm e y.1 → ∃ v, R v cs ∧ G v) :
    ∃ A len c xs, cs = [.slice A len c] ∧ len ≤ c ∧ len ≤ 140737488355328 ∧ ReadsRow R sz w A len xs ∧ xs.length = len ∧ ∀ y ∈ xs, G y := by
  rcases DataW.trod_slice ht h with ⟨rfl, _⟩ | ⟨a, len, cap, elems, rest, n, rfl, rfl, rfl, hb, hl, hm, hlen, hel, _, _⟩
  · exact ⟨none, 0, 0, [], rfl, Nat.le_refl _, Nat.zero_le _, ⟨rfl, by decide, fun h => absurd h (by decide)⟩, rfl, fun y h => nomatch h⟩
  · have hlb : len ≤ reachBytes := by
      have h1 := hsm (((elems.map (·.1)).length + (rest.map (·.1)).length) * B) (by rw [← hB]; simp [DataW.weights, ht])
      have h2 : len ≤ (elems.map (·.1)).length + (rest.map (·.1)).length := by simp; omega
      exact Nat.le_trans h2 (Nat.le_trans (Nat.le_mul_of_pos_right _ hB0) h1)
    have hmx : reachBytes ≤ 140737488355328 := by decide
    have key : ∀ i, i < len → ∃ v, G v ∧ ∃ c, c.length = sz ∧ R v c ∧ ∀ j u, c[j]? = some u → w.cell? (a.add (i * sz + j)) = some u := by
      intro i hi
      have h1 := hel i hi
      rw [List.getElem?_eq_getElem (by omega)] at h1
      obtain ⟨c, hc1, hc2⟩ := Option.bind_eq_some_iff.1 h1
      obtain ⟨v, hv, hg⟩ := ih n (by omega) _ _ hc2 (fun m hmm => hsm m (by
        rw [DataW.weights, ht]
        refine List.mem_cons_of_mem _ (List.mem_append_left _ (weights_all ?_ m hmm))
        exact List.mem_map.2 ⟨_, List.getElem_mem _, rfl⟩))
      obtain ⟨_, hcl, hcell⟩ := World.cells?_some hc1
      rw [hc] at hcl hcell
      refine ⟨v, hg, c, hcl, hv, fun j u hj => ?_⟩
      have := hcell j (by have := (List.getElem?_eq_some_iff.1 hj).1; omega)
      rw [Go.Deep.add_add, hj] at this
      exact this
    obtain ⟨V, hV⟩ := Go.Deep.choose_lt key
    refine ⟨some a, len, cap, (List.range len).map V, rfl, hl, by omega, ⟨by simp, by omega, fun _ => ⟨a, rfl, fun j p hj => ?_⟩⟩, by simp, fun y hy => ?_⟩
    · have hjl : j < len := by simpa using (List.getElem?_eq_some_iff.1 hj).1
      have : V j = p := by simpa [hjl] using hj
      subst this
      exact (hV j hjl).2
    · obtain ⟨i, hi, rfl⟩ := List.mem_map.1 hy
      exact (hV i (List.mem_range.1 hi)).1
theorem fitsL_of : ∀ {l : List JV}, (∀ y ∈ l, y.fits) → JV.fitsL l
  | [], _ => by rw [JV.fitsL]; trivial
  | x :: l, h => by rw [JV.fitsL]; exact ⟨h x (.head _), fitsL_of (fun y hy => h y (.tail _ hy))⟩
theorem fitsF_of : ∀ {l : List JF}, (∀ y ∈ l, y.name.size ≤ 140737488355328 ∧ y.value.fits) → JV.fitsF l
  | [], _ => by rw [JV.fitsF]; trivial
  | .mk nm v :: l, h => by rw [JV.fitsF]; exact ⟨(h _ (.head _)).1, (h _ (.head _)).2, fitsF_of (fun y hy => h y (.tail _ hy))⟩
theorem wf64 {k : Int} (h : (Lit.int .i64 k).wf = true) : -9223372036854775808 ≤ k ∧ k ≤ 9223372036854775807 := by
  simpa [Lit.wf, IntKind.min, IntKind.max, IntKind.signed, IntKind.bits] using h
theorem list8 {α : Type} {l : List α} (h : l.length = 8) : ∃ c0 c1 c2 c3 c4 c5 c6 c7, l = [c0, c1, c2, c3, c4, c5, c6, c7] := by
  match l, h with
  | [c0, c1, c2, c3, c4, c5, c6, c7], _ => exact ⟨c0, c1, c2, c3, c4, c5, c6, c7, rfl⟩
theorem list9 {α : Type} {l : List α} (h : l.length = 9) : ∃ c0 r, l = c0 :: r ∧ r.length = 8 := by
  match l, h with
  | c0 :: r, h => exact ⟨c0, r, rfl, by simpa using h⟩
theorem list3 {α : Type} {l : List α} (h : l.length = 3) : ∃ c0 c1 c2, l = [c0, c1, c2] := by
  match l, h with
  | [c0, c1, c2], _ => exact ⟨c0, c1, c2, rfl⟩
theorem list2 {α : Type} {l : List α} (h : l.length = 2) : ∃ c0 c1, l = [c0, c1] := by
  match l, h with
  | [c0, c1], _ => exact ⟨c0, c1, rfl⟩
theorem list6 {α : Type} {l : List α} (h : l.length = 6) : ∃ c0 c1 c2 c3 c4 c5, l = [c0, c1, c2, c3, c4, c5] := by
  match l, h with
  | [c0, c1, c2, c3, c4, c5], _ => exact ⟨c0, c1, c2, c3, c4, c5, rfl⟩
theorem bytesOf_V : Tryz.prog.bytesOf 27 = 112 := by kernel_rfl
theorem bytesOf_F : Tryz.prog.bytesOf 69 = 128 := by kernel_rfl
set_option maxRecDepth 100000 in
theorem trod_V : ∀ (fuel : Nat) (cs : List Value) (x : DataW H × List MemPlace), DataW.trod enc Tryz.prog w 0 spare held fuel 27 cs = some x → Sm 27 x.1 → ∃ v : JV, kV.K w v cs ∧ v.fits := by
  intro fuel
  induction fuel using Nat.strongRecOn with
  | ind fuel ih =>
    intro cs x h hsm
    have hmx : reachBytes ≤ 140737488355328 := by decide
    obtain ⟨ys, n, rfl, rfl, hlen, hys, hf⟩ := DataW.trod_struct Tryz.underlying27 h
    obtain ⟨c0, c1, c2, c3, c4, c5, c6, c7, rfl⟩ := list8 (hlen.trans cellsOf_V)
    obtain ⟨y0, y1, y2, y3, y4, y5, rfl⟩ := list6 hys
    have h0 := hf 0 _ rfl
    have h1 := hf 1 _ rfl
    have h2 := hf 2 _ rfl
    have h3 := hf 3 _ rfl
    have h4 := hf 4 _ rfl
    have h5 := hf 5 _ rfl
    simp [cellsOf_int, cellsOf_bool, cellsOf_D, cellsOf_str, cellsOf_lV, cellsOf_lF] at h0 h1 h2 h3 h4 h5
    have s2 := Sm.part Tryz.underlying27 hsm (j := 2) rfl rfl
    have s3 := Sm.part Tryz.underlying27 hsm (j := 3) rfl rfl
    have s4 := Sm.part Tryz.underlying27 hsm (j := 4) rfl rfl
    have s5 := Sm.part Tryz.underlying27 hsm (j := 5) rfl rfl
    obtain ⟨k, e0, _, hk⟩ := DataW.trod_int Tryz.underlying3 h0
    obtain ⟨t, e1, _⟩ := DataW.trod_bool Tryz.underlying4 h1
    obtain ⟨zs, m, _, rfl, _, hzs, hg⟩ := DataW.trod_struct Tryz.underlying23 h2
    obtain ⟨z0, z1, z2, rfl⟩ : ∃ z0 z1 z2, zs = [z0, z1, z2] := by
      exact list3 hzs
    have g0 := hg 0 _ rfl
    have g1 := hg 1 _ rfl
    have g2 := hg 2 _ rfl
    simp [cellsOf_int, cellsOf_bool, cellsOf_str] at g0 g1 g2
    have s21 := Sm.part Tryz.underlying23 s2 (j := 1) rfl rfl
    obtain ⟨ng, e2, _⟩ := DataW.trod_bool Tryz.underlying4 g0
    obtain ⟨ds, e3, rfl, hds⟩ := DataW.trod_string Tryz.underlying9 g1
    obtain ⟨ex, e4, _, hex⟩ := DataW.trod_int Tryz.underlying3 g2
    obtain ⟨tx, e5, rfl, htx⟩ := DataW.trod_string Tryz.underlying9 h3
    have z1 := Sm.str s21
    have z3 := Sm.str s3
    obtain ⟨A, ll, cl, xs, e6, hlc, hlm, hrl, hxl, hxs⟩ := trod_row (kV.K w) JV.fits Tryz.underlying24 cellsOf_V bytesOf_V (by decide) h4 s4 (fun m hm cs y hy hs => ih m (by omega) cs y hy hs)
    obtain ⟨B, lf, cf, fs, e7, hfc, hfm, hrf, hfl, hfs⟩ := trod_row (kF.K w) (fun f : JF => f.name.size ≤ 140737488355328 ∧ f.value.fits) Tryz.underlying25 cellsOf_F bytesOf_F (by decide) h5 s5 (fun m hm cs y hy hs => by
      obtain ⟨us, p, rfl, rfl, hl9, hus, hg⟩ := DataW.trod_struct Tryz.underlying69 hy
      obtain ⟨q0, r, rfl, hr8⟩ := list9 (hl9.trans cellsOf_F)
      obtain ⟨u0, u1, rfl⟩ : ∃ u0 u1, us = [u0, u1] := by
        exact list2 hus
      have p0 := hg 0 _ rfl
      have p1 := hg 1 _ rfl
      simp [cellsOf_str, cellsOf_V] at p0 p1
      rw [List.take_of_length_le (by omega)] at p1
      have t0 := Sm.part Tryz.underlying69 hs (j := 0) rfl rfl
      have t1 := Sm.part Tryz.underlying69 hs (j := 1) rfl rfl
      obtain ⟨nm, e8, rfl, hnm⟩ := DataW.trod_string Tryz.underlying9 p0
      have hnz := Sm.str t0
      obtain ⟨v, hv, hvf⟩ := ih p (by omega) _ _ p1 t1
      injection e8 with e8
      subst e8
      exact ⟨.mk nm v, ⟨[.string nm], r, rfl, rfl, hv⟩, by show nm.size ≤ _; omega, hvf⟩)
    injection e0 with e0
    injection e1 with e1
    injection e2 with e2
    injection e3 with e3
    injection e4 with e4
    injection e5 with e5
    injection e6 with e6
    injection e7 with e7
    subst e0 e1 e2 e3 e4 e5 e6 e7 hxl hfl
    refine ⟨.mk k t ng ds ex tx xs fs, kV_mkK (x := .mk k t ng ds ex tx xs fs) hlc hrl hfc hrf, ?_⟩
    rw [JV.fits]
    exact ⟨wf64 hk, wf64 hex, by omega, by omega, hlm, hfm, fitsL_of hxs, fitsF_of hfs⟩
end
end Go.Proofs.YtkdeleafgailhaaGreatDoor
end
section
set_option linter.unusedVariables false
set_option linter.unusedSimpArgs false
namespace Go.Proofs.YtkdeleafgailhaaGreatDoor
open Go Go.RowKit Go.Shelf Go.Lib

theorem star_es : "*errors.errorString" = "*" ++ "errors.errorString" := by decide +kernel
theorem row_es (u : TypeId) (h : Tryz.prog.typeName? 3 u = some "*errors.errorString") : u = 228 :=
  typeName_ptr_named (nm := "errors.errorString") (by rw [← star_es]; kernel_rfl) (by kernel_rfl) (by decide) u (by rw [← star_es]; exact h)
theorem sentinel_mem {W : World} {n : String} {text : List UInt8} {g : Nat} (hg : Tryz.prog.globalNamed n = some g) (ht : (Tryz.prog.globals[g]?).map (·.type) = some 51) : ∀ {l : List (String × DataW Unit)}, laidMet Tryz.prog l W → (n, DataW.iface "*errors.errorString" (.ptr (.agg [.lit (.string text)]))) ∈ l → ∃ a, W.var? Tryz.prog n = some #[ev a]
  | x :: r, h, hm => by
    rcases List.mem_cons.1 hm with rfl | hm
    · obtain ⟨a, s, hv, _⟩ := laid_sentinel h hg ht Tryz.underlying51 row_es Tryz.underlying228 Tryz.underlying230 rfl rfl Tryz.underlying9 (by kernel_rfl) cellsOf_str
      exact ⟨a, hv⟩
    · exact sentinel_mem hg ht h.tail hm
theorem u8x : U8Extra Tryz.prog Tryz.lays196_ren := ⟨by kernel_rfl, by kernel_rfl, by kernel_rfl, by kernel_rfl, by kernel_rfl, by kernel_rfl, by kernel_rfl⟩
theorem oneRowError : ((List.range Tryz.prog.types.size).filter fun t => Tryz.prog.rowNamed t [101, 114, 114, 111, 114]) = [51] := by kernel_rfl
theorem rtypeRow : (Tryz.prog.cutTypes.find? (·.1 == "internal/reflectlite.rtype")).map (·.2) = some 167 := by kernel_rfl
theorem handle_mem {W : World} {hs : List (String × DataW Unit)} (hh : handlesMet Tryz.prog hs W) (hm : ("errors.errorType", Rows.laid_errors_errorType) ∈ hs) : W.cell? ⟨4, 0, none⟩ = some (.iface 167 (.agg #[typeHandle Tryz.prog 51])) := by
  obtain ⟨name, u, ty, e1, e2, e3, e4, e5⟩ := hh _ hm
  have en : name = [101, 114, 114, 111, 114] := (Option.some.inj e1).symm
  subst en
  obtain rfl := Option.some.inj (rtypeRow.symm.trans e2)
  have hm2 : ty ∈ (List.range Tryz.prog.types.size).filter fun t => Tryz.prog.rowNamed t [101, 114, 114, 111, 114] := List.mem_filter.2 ⟨List.mem_range.2 e3, e4⟩
  rw [oneRowError] at hm2
  obtain rfl := List.mem_singleton.1 hm2
  simpa using World.var?_cell (show Tryz.prog.globalNamed "errors.errorType" = some 4 by kernel_rfl) e5 0
theorem accept_eq : (Rows.laid_unicode_utf8_acceptRanges : DataW Unit) = acceptData := by kernel_rfl
theorem pow_eq : (Rows.laid_internal_strconv_uint64pow10 : DataW Unit) = tabData .u64 pow10Tab := by kernel_rfl
theorem pow_of {W : World} (h : VarReads Tryz.prog W "internal/strconv.uint64pow10" (tabData .u64 pow10Tab)) : TabIs Tryz.prog W "internal/strconv.uint64pow10" .u64 pow10Tab := by
  obtain ⟨g', t', cs, fuel, p, hg', ht', hvar, hd⟩ := h
  obtain rfl := Option.some.inj ((show Tryz.prog.globalNamed "internal/strconv.uint64pow10" = some 13 by kernel_rfl).symm.trans hg')
  obtain rfl := Option.some.inj ((show (Tryz.prog.globals[13]?).map (·.type) = some 213 by kernel_rfl).symm.trans ht')
  unfold TabIs
  rw [hvar, ← cells_of_tab Tryz.underlying213 Tryz.underlying189 (by kernel_rfl) (by kernel_rfl) hd]
theorem penv_of {l hs : List (String × DataW Unit)} {W : World} (hd : laidMet Tryz.prog l W) (hh : handlesMet Tryz.prog hs W) (mh : ("errors.errorType", Rows.laid_errors_errorType) ∈ hs)
    (m1 : ("voyage/api.ErrDue", Rows.laid_voyage_api_ErrDue) ∈ l) (m2 : ("voyage/api.ErrLong", Rows.laid_voyage_api_ErrLong) ∈ l) (m3 : ("voyage/api.ErrDeep", Rows.laid_voyage_api_ErrDeep) ∈ l) (m4 : ("voyage/api.ErrTwice", Rows.laid_voyage_api_ErrTwice) ∈ l)
    (m5 : ("voyage/api.ErrText", Rows.laid_voyage_api_ErrText) ∈ l) (m6 : ("voyage/api.ErrNumber", Rows.laid_voyage_api_ErrNumber) ∈ l) (m7 : ("voyage/api.ErrExponent", Rows.laid_voyage_api_ErrExponent) ∈ l) (m8 : ("strconv.ErrSyntax", Rows.laid_strconv_ErrSyntax) ∈ l)
    (m9 : ("unicode/utf8.first", Rows.laid_unicode_utf8_first) ∈ l) (m10 : ("unicode/utf8.acceptRanges", Rows.laid_unicode_utf8_acceptRanges) ∈ l) (m11 : ("internal/strconv.uint64pow10", Rows.laid_internal_strconv_uint64pow10) ∈ l) : ∃ E, PEnv E W := by
  obtain ⟨a1, h1⟩ := sentinel_mem (g := 1) (by kernel_rfl) (by kernel_rfl) hd m1
  obtain ⟨a2, h2⟩ := sentinel_mem (g := 2) (by kernel_rfl) (by kernel_rfl) hd m2
  obtain ⟨a3, h3⟩ := sentinel_mem (g := 7) (by kernel_rfl) (by kernel_rfl) hd m3
  obtain ⟨a4, h4⟩ := sentinel_mem (g := 8) (by kernel_rfl) (by kernel_rfl) hd m4
  obtain ⟨a5, h5⟩ := sentinel_mem (g := 9) (by kernel_rfl) (by kernel_rfl) hd m5
  obtain ⟨a6, h6⟩ := sentinel_mem (g := 11) (by kernel_rfl) (by kernel_rfl) hd m6
  obtain ⟨a7, h7⟩ := sentinel_mem (g := 12) (by kernel_rfl) (by kernel_rfl) hd m7
  obtain ⟨a8, h8⟩ := sentinel_mem (g := 14) (by kernel_rfl) (by kernel_rfl) hd m8
  have r9 : VarReads Tryz.prog W "unicode/utf8.first" firstData := Pinned.utf8First_eq ▸ laidMet.reads hd m9
  have r10 : VarReads Tryz.prog W "unicode/utf8.acceptRanges" acceptData := accept_eq ▸ laidMet.reads hd m10
  have r11 : VarReads Tryz.prog W "internal/strconv.uint64pow10" (tabData .u64 pow10Tab) := pow_eq ▸ laidMet.reads hd m11
  exact ⟨⟨a1, a2, a3, a4, a5, a6, a7⟩, ⟨⟨h1, h2, h3, h4, h5, h6, h7⟩, ⟨utf8Tabs_of_readsT (U8Types.of196 Tryz.lays196) u8x r9 r10, pow_of r11⟩, ⟨_, _, (var_block (by kernel_rfl) h8).2⟩, handle_mem hh mh⟩⟩
end Go.Proofs.YtkdeleafgailhaaGreatDoor
end
section
set_option linter.unusedVariables false
set_option linter.unusedSimpArgs false
namespace Go.Proofs.YtkdeleafgailhaaGreatDoor
open Go Go.RowKit Go.Proofs.YtkdeleafgailhaaGreatDoorW.PrintWords Go.ChangeShapes Go.WideShapes

theorem wf_i64 {z : Int} (h : (Lit.int .i64 z).wf = true) : -9223372036854775808 ≤ z ∧ z ≤ 9223372036854775807 := bounds_i64 h
section
variable {H : Type} {enc : TypeId × Value → H} {w : World} {spare : Nat → Bool} {held : Bool}
end
end Go.Proofs.YtkdeleafgailhaaGreatDoor
end
