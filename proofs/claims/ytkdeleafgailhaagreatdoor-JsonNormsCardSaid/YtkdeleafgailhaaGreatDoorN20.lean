/- What json's reader gives is of a bounded weight, each of its ints one of 64 bits. json.Parse: what it gives; a text at whose value a fault stands. json.Parse: a text behind whose value something stands. json.Parse: a text too long; a text that is read. json.Parse, whole; its answers at the statements' two constant texts. voyagelaw02.many, heavy: what is not heavy has a weight of at most 2^22. -/
import Derived.Test.YtkdeleafgailhaaGreatDoorN19
import Derived.Test.YtkdeleafgailhaaGreatDoorN11
import Derived.Test.YtkdeleafgailhaaGreatDoorN10
import Derived.Deep.Cut
import Derived.Deep.CutRange
import Derived.BigQuiet
import Derived.Deep.QuietTactic
import Derived.StillTailTactics
section
set_option linter.unusedVariables false
set_option linter.unusedSimpArgs false
namespace Go.Proofs.YtkdeleafgailhaaGreatDoor
open Go Go.RowKit Go.Proofs.YtkdeleafgailhaaGreatDoorW.PrintWords

theorem textF_wt (s : ByteArray) : ∀ (n i : Nat) (acc l : List UInt8) (j : Nat), textF s n i acc = .ok l j → l.length + 4 * i ≤ acc.length + 4 * j
  | 0, i, acc, l, j, h => by rw [textF] at h; cases h
  | n + 1, i, acc, l, j, h => by
    rw [textF] at h
    split at h
    · injection h with h1 h; subst h1; omega
    · split at h
      · cases h
      · rename_i h1 h2
        have h3 := textF_wt s n _ _ l j h
        have h4 := letter_len (letAt s i).1 [] 0 1 (by simp) (by omega)
        rw [List.length_append] at h3
        simp only [List.nil_append] at h4
        omega
theorem textAt_wt {s : ByteArray} {i : Nat} {l : List UInt8} {j : Nat} (h : textAt s i = .ok l j) : l.length + 4 * (i + 1) ≤ 4 * j := by
  have := textF_wt s _ _ _ _ _ h
  simpa using this
theorem decParse_b {s : ByteArray} (hs : s.size ≤ 1048576) {d : Dec} (h : decParse s = .ok d) : d.digits.size ≤ s.size ∧ -9999 ≤ d.exp ∧ d.exp ≤ 9999 := by
  unfold decParse at h
  have hb := numeral_b hs
  generalize numeral s = r at h hb
  match r, h, hb with
  | some (neg, bs, x), h, hb =>
    have h1 := (hb neg bs x rfl).1
    simp only at h
    split at h
    · injection h with h
      subst h
      have h2 := decForm_bounds neg (strOfNums bs) x
      rw [strOfNums_size] at h2
      exact ⟨by omega, h2.2.1, h2.2.2⟩
    · cases h
theorem numberAt_wt {s : ByteArray} (hs : s.size ≤ 1048576) {i : Nat} {x : JV} {j : Nat} (h : numberAt s i = .ok x j) : x.wt + i ≤ 1 + j ∧ x.ints := by
  unfold numberAt at h
  split at h
  · rename_i d hd
    injection h with h h2
    have he := numTo_le s (s.size + 1) i
    rw [h2] at he hd
    have hz : (s.extract i j).size ≤ j - i := by rw [ByteArray.size_extract]; omega
    have hz2 : (s.extract i j).size ≤ s.size := by rw [ByteArray.size_extract]; omega
    have hb := decParse_b (by omega) hd
    subst h
    refine ⟨?_, ?_⟩
    · rw [JV.wt, JV.wtL, JV.wtF]
      show 1 + d.digits.size + 0 + 0 + 0 + i ≤ 1 + j
      omega
    · rw [JV.ints, JV.intsL, JV.intsF]
      exact ⟨by omega, by omega, trivial, trivial⟩
  · cases h
theorem numberAt_le {s : ByteArray} {i : Nat} {x : JV} {j : Nat} (h : numberAt s i = .ok x j) : i ≤ j := by
  unfold numberAt at h
  split at h
  · injection h with _ h
    have := numTo_le s (s.size + 1) i
    omega
  · cases h
theorem sevF_wt {σ : Type} (s : ByteArray) (c : Nat) (each : Nat → σ → PR σ) (m : σ → Nat) (P : σ → Prop) (hw : ∀ i x y j, each i x = .ok y j → P x → m y + 8 * i ≤ m x + 8 * j + 8 ∧ P y) : ∀ (n i : Nat) (x y : σ) (j : Nat), sevF s c each n i x = .ok y j → P x → m y + 8 * i ≤ m x + 8 * j ∧ P y
  | 0, i, x, y, j, h, hp => by rw [sevF] at h; cases h
  | n + 1, i, x, y, j, h, hp => by
    rw [sevF] at h
    cases he : each i x with
    | no k e => rw [he] at h; cases h
    | ok z k =>
      rw [he] at h
      simp only at h
      obtain ⟨h1, hz⟩ := hw _ _ _ _ he hp
      have h2 := gapTo_le s k
      have h3 := gapTo_le s (gapTo s k + 1)
      split at h
      · obtain ⟨h4, h5⟩ := sevF_wt s c each m P hw n _ _ _ _ h hz
        exact ⟨by omega, h5⟩
      · split at h
        · injection h with h0 h; subst h0; exact ⟨by omega, hz⟩
        · cases h
theorem sevAt_wt {σ : Type} (s : ByteArray) (c : Nat) (each : Nat → σ → PR σ) (m : σ → Nat) (P : σ → Prop) (hw : ∀ i x y j, each i x = .ok y j → P x → m y + 8 * i ≤ m x + 8 * j + 8 ∧ P y) {i : Nat} {x y : σ} {j : Nat} (h : sevAt s c each i x = .ok y j) (hp : P x) : m y + 8 * i + 8 ≤ m x + 8 * j ∧ P y := by
  unfold sevAt at h
  have h1 := gapTo_le s (i + 1)
  split at h
  · injection h with h0 h; subst h0; exact ⟨by omega, hp⟩
  · obtain ⟨h4, h5⟩ := sevF_wt s c each m P hw _ _ _ _ _ h hp
    exact ⟨by omega, h5⟩
theorem wtL_snoc (a : List JV) (x : JV) : JV.wtL (a ++ [x]) = JV.wtL a + (1 + x.wt) := by
  rw [wtL_app, JV.wtL, JV.wtL]; omega
theorem wtF_snoc (a : List JF) (nm : ByteArray) (x : JV) : JV.wtF (a ++ [.mk nm x]) = JV.wtF a + (1 + nm.size + x.wt) := by
  rw [wtF_app, JV.wtF, JV.wtF]; omega
theorem intsL_app : ∀ (a : List JV) (x : JV), JV.intsL a → x.ints → JV.intsL (a ++ [x])
  | [], x, _, h => by show JV.intsL [x]; rw [JV.intsL, JV.intsL]; exact ⟨h, trivial⟩
  | y :: a, x, ha, h => by
    rw [JV.intsL] at ha
    show JV.intsL (y :: (a ++ [x]))
    rw [JV.intsL]
    exact ⟨ha.1, intsL_app a x ha.2 h⟩
theorem intsF_app : ∀ (a : List JF) (nm : ByteArray) (x : JV), JV.intsF a → x.ints → JV.intsF (a ++ [.mk nm x])
  | [], nm, x, _, h => by show JV.intsF [.mk nm x]; rw [JV.intsF, JV.intsF]; exact ⟨h, trivial⟩
  | .mk n2 y :: a, nm, x, ha, h => by
    rw [JV.intsF] at ha
    show JV.intsF (.mk n2 y :: (a ++ [.mk nm x]))
    rw [JV.intsF]
    exact ⟨ha.1, intsF_app a nm x ha.2 h⟩
/-- A reading of a value by its places. -/
def ReadWt (val : Nat → PR JV) : Prop := ∀ i x j, val i = .ok x j → x.wt + 8 * i ≤ 8 * j + 1 ∧ x.ints
theorem itemL_wt {val : Nat → PR JV} (hv : ReadWt val) (i : Nat) (xs ys : List JV) (j : Nat) (h : itemL val i xs = .ok ys j) (hp : JV.intsL xs) : JV.wtL ys + 8 * i ≤ JV.wtL xs + 8 * j + 8 ∧ JV.intsL ys := by
  unfold itemL at h
  cases hx : val i with
  | no k e => rw [hx] at h; cases h
  | ok x k =>
    rw [hx] at h
    injection h with h0 h
    subst h0 h
    obtain ⟨h1, h2⟩ := hv _ _ _ hx
    rw [wtL_snoc]
    exact ⟨by omega, intsL_app _ _ hp h2⟩
theorem fieldAt_wt {s : ByteArray} {val : Nat → PR JV} (hv : ReadWt val) (i : Nat) (fs gs : List JF) (j : Nat) (h : fieldAt s val i fs = .ok gs j) (hp : JV.intsF fs) : JV.wtF gs + 8 * i ≤ JV.wtF fs + 8 * j + 8 ∧ JV.intsF gs := by
  unfold fieldAt at h
  split at h
  · cases ht : textAt s i with
    | no k e => rw [ht] at h; cases h
    | ok l k =>
      rw [ht] at h
      simp only at h
      have h1 := textAt_wt ht
      split at h
      · cases h
      · split at h
        · cases hx : val (gapTo s (gapTo s k + 1)) with
          | no k2 e => rw [hx] at h; cases h
          | ok x k2 =>
            rw [hx] at h
            obtain ⟨h2, h2'⟩ := hv _ _ _ hx
            have h3 := gapTo_le s (gapTo s k + 1)
            have h4 := gapTo_le s k
            unfold fieldOf at h
            injection h with h5 h6
            subst h5 h6
            rw [wtF_snoc]
            refine ⟨?_, intsF_app _ _ _ hp h2'⟩
            have hl : (ByteArray.mk l.toArray).size = l.length := by show l.toArray.size = _; simp
            rw [hl]
            omega
        · cases h
  · cases h
theorem textVal_wt {s : ByteArray} {i : Nat} {x : JV} {j : Nat} (h : textVal s i = .ok x j) : x.wt + 8 * i ≤ 8 * j + 1 ∧ x.ints := by
  unfold textVal at h
  cases ht : textAt s i with
  | no k e => rw [ht] at h; cases h
  | ok l k =>
    rw [ht] at h
    injection h with h0 h
    have h1 := textAt_wt ht
    have h2 := textAt_adv ht
    subst h0 h
    have hl : (ByteArray.mk l.toArray).size = l.length := by show l.toArray.size = _; simp
    refine ⟨?_, ?_⟩
    · rw [JV.wt, JV.wtL, JV.wtF, hl]
      show 1 + 0 + l.length + 0 + 0 + 8 * i ≤ _
      omega
    · rw [JV.ints, JV.intsL, JV.intsF]
      exact ⟨by omega, by omega, trivial, trivial⟩
theorem litAt_wt {s : ByteArray} {i : Nat} {x : JV} {j : Nat} (h : litAt s i = .ok x j) : x.wt + 8 * i ≤ 8 * j + 1 ∧ x.ints := by
  unfold litAt at h
  repeat' split at h
  all_goals (first | (injection h with h0 h; subst h0 h; unfold JV.nul; rw [JV.wt, JV.wtL, JV.wtF, JV.ints, JV.intsL, JV.intsF]; refine ⟨?_, by omega, by omega, trivial, trivial⟩; show 1 + 0 + 0 + 0 + 0 + 8 * i ≤ _; omega) | (injection h with h0 h; subst h0 h; rw [JV.wt, JV.wtL, JV.wtF, JV.ints, JV.intsL, JV.intsF]; refine ⟨?_, by omega, by omega, trivial, trivial⟩; show 1 + 0 + 0 + 0 + 0 + 8 * i ≤ _; omega) | cases h)
theorem valWith_wt {s : ByteArray} (hs : s.size ≤ 1048576) {lst obj : PR JV} {i : Nat} (hl : ∀ x j, lst = .ok x j → x.wt + 8 * i ≤ 8 * j + 1 ∧ x.ints) (ho : ∀ x j, obj = .ok x j → x.wt + 8 * i ≤ 8 * j + 1 ∧ x.ints) {x : JV} {j : Nat} (h : valWith s lst obj i = .ok x j) : x.wt + 8 * i ≤ 8 * j + 1 ∧ x.ints := by
  unfold valWith at h
  split at h
  · exact hl _ _ h
  · split at h
    · exact ho _ _ h
    · split at h
      · exact textVal_wt h
      · split at h
        · have h1 := numberAt_wt hs h
          have h2 := numberAt_le h
          exact ⟨by omega, h1.2⟩
        · exact litAt_wt h
theorem valF_wt (s : ByteArray) (hs : s.size ≤ 1048576) : ∀ (D : Nat), ReadWt (valF s D)
  | 0, i, x, j, h => by
    rw [valF] at h
    exact valWith_wt hs (fun x j h => by cases h) (fun x j h => by cases h) h
  | D + 1, i, x, j, h => by
    rw [valF] at h
    refine valWith_wt hs (fun x j h => ?_) (fun x j h => ?_) h
    · cases hp : sevAt s 93 (itemL (valF s D)) i [] with
      | no k e => rw [hp] at h; cases h
      | ok xs k =>
        rw [hp] at h
        injection h with h0 h
        obtain ⟨h1, h2⟩ := sevAt_wt s 93 _ JV.wtL JV.intsL (itemL_wt (valF_wt s hs D)) hp (by rw [JV.intsL]; trivial)
        subst h0 h
        rw [JV.wtL] at h1
        refine ⟨?_, ?_⟩
        · rw [JV.wt, JV.wtF]
          show 1 + 0 + 0 + JV.wtL xs + 0 + 8 * i ≤ _
          omega
        · rw [JV.ints, JV.intsF]
          exact ⟨by omega, by omega, h2, trivial⟩
    · cases hp : sevAt s 125 (fieldAt s (valF s D)) i [] with
      | no k e => rw [hp] at h; cases h
      | ok xs k =>
        rw [hp] at h
        injection h with h0 h
        obtain ⟨h1, h2⟩ := sevAt_wt s 125 _ JV.wtF JV.intsF (fieldAt_wt (valF_wt s hs D)) hp (by rw [JV.intsF]; trivial)
        subst h0 h
        rw [JV.wtF] at h1
        refine ⟨?_, ?_⟩
        · rw [JV.wt, JV.wtL]
          show 1 + 0 + 0 + 0 + JV.wtF xs + 8 * i ≤ _
          omega
        · rw [JV.ints, JV.intsL]
          exact ⟨by omega, by omega, trivial, h2⟩
end Go.Proofs.YtkdeleafgailhaaGreatDoor
end
section
set_option linter.unusedVariables false
set_option linter.unusedSimpArgs false
namespace Go.Proofs.YtkdeleafgailhaaGreatDoor
open Go Go.RowKit Go.Proofs.YtkdeleafgailhaaGreatDoorW.PrintWords

def parseTo (s : ByteArray) : PR JV := match valF s 64 (gapTo s 0) with
  | .no k e => .no k e
  | .ok x j => if gapTo s j < s.size then .no (gapTo s j) .due else .ok x.norm j
/-- What Parse reads of the library and of the package api. -/
structure PEnv (E : ErrV) (w : World) : Prop where
  errs : Errs E w
  facts : Facts w
  syn : ∃ TT pp, w.cell? ⟨14, 0, none⟩ = some (.iface TT pp)
  et : w.cell? ⟨4, 0, none⟩ = some (.iface 167 (.agg #[typeHandle Tryz.prog 51]))
def ParseGives (E : ErrV) (w : World) : PR JV → Ending → World → Prop
  | .ok x _, e, w' => ∃ cs, e = .returned (.tuple #[.agg cs.toArray, .nilIface]) ∧ kV.M w' w.heap.size (fun _ => True) x cs ∧ Below w.heap.size w w'
  | .no k pe, e, w' => ∃ v, e = .returned (.tuple #[.agg nulCells.toArray, v]) ∧ IsFault v k (ev (E.at_ pe)) w' ∧ Below w.heap.size w w'

theorem low_setCells {B b : Nat} {w W : World} (h : Below B w W) (hb : B ≤ b) (vs : List Value) (j : Nat) : Below B w (W.setCells b j vs) := by
  obtain ⟨s1, s2, s3, s4⟩ := setCells_same b vs j W
  exact h.trans ⟨s1, s2, s3, by rw [s4]; exact Nat.le_refl _, fun k hk => setCells_far vs j k (by omega)⟩
theorem parse_ne {W : World} {B k kk : Nat} {v : Value} (hb : ∃ cs, W.heap[B]? = some (.cells cs 27 (0, 0))) (hk : W.heap[kk]? = some (.cells #[.int .i64 k, .string ⟨#[]⟩, v] 98 (0, 0))) : kk ≠ B := by
  obtain ⟨cs, hb⟩ := hb
  exact blk_ne hk hb (by decide)
theorem parse_at {W : World} {B k kk : Nat} {v : Value} (hne : kk ≠ B) (hk : W.heap[kk]? = some (.cells #[.int .i64 k, .string ⟨#[]⟩, v] 98 (0, 0))) : (W.setCells B 0 nulCells).heap[kk]? = some (.cells #[.int .i64 k, .string ⟨#[]⟩, v] 98 (0, 0)) := by
  rw [setCells_far _ _ _ hne]; exact hk
theorem parse_gives_no {E : ErrV} {w W : World} {k kk : Nat} {pe : PE} (hl : Below w.heap.size w W) (hk : W.heap[kk]? = some (.cells #[.int .i64 k, .string ⟨#[]⟩, ev (E.at_ pe)] 98 (0, 0))) :
    ParseGives E w (.no k pe) (.returned (.tuple #[.agg nulCells.toArray, .iface 94 (.pointer (some ⟨kk, 0, none⟩))])) W := by
  unfold ParseGives
  exact ⟨_, rfl, ⟨kk, rfl, hk⟩, hl⟩
theorem parse_no {E : ErrV} {w W : World} {k kk : Nat} {pe : PE} (hl : Below w.heap.size w W) (hb : ∃ cs, W.heap[w.heap.size]? = some (.cells cs 27 (0, 0))) (hk : W.heap[kk]? = some (.cells #[.int .i64 k, .string ⟨#[]⟩, ev (E.at_ pe)] 98 (0, 0))) :
    ParseGives E w (.no k pe) (.returned (.tuple #[.agg nulCells.toArray, .iface 94 (.pointer (some ⟨kk, 0, none⟩))])) (W.setCells w.heap.size 0 nulCells) :=
  parse_gives_no (low_setCells hl (Nat.le_refl _) _ _) (parse_at (parse_ne hb hk) hk)

theorem ParseGives.drew {E : ErrV} {w W : World} {r : PR JV} {e : Ending} (h : ParseGives E w r e W) : ParseGives E w r e W.drew := by
  cases r with
  | ok x j =>
    obtain ⟨cs, h1, h2, h3⟩ := h
    exact ⟨cs, h1, kV.M_below h2 (below_drew (Below.refl _ _)), below_drew h3⟩
  | no k pe =>
    obtain ⟨v, h1, ⟨kk, h2, h3⟩, h4⟩ := h
    exact ⟨v, h1, ⟨kk, h2, h3⟩, below_drew h4⟩
theorem parse_no8 {E : ErrV} {w W : World} {k kk b : Nat} {pe : PE} (hbw : b = w.heap.size) (hl : Below w.heap.size w W) (hb : ∃ cs, W.heap[b]? = some (.cells cs 27 (0, 0))) (hk : W.heap[kk]? = some (.cells #[.int .i64 k, .string ⟨#[]⟩, ev (E.at_ pe)] 98 (0, 0))) :
    ParseGives E w (.no k pe) (.returned (.tuple #[.agg #[.int .i64 0, .bool false, .bool false, .string ⟨#[]⟩, .int .i64 0, .string ⟨#[]⟩, .slice none 0 0, .slice none 0 0], .iface 94 (.pointer (some ⟨kk, 0, none⟩))]))
      ((((((((W.setCell ⟨b, 0, none⟩ (.int .i64 0)).setCell ⟨b, 1, none⟩ (.bool false)).setCell ⟨b, 2, none⟩ (.bool false)).setCell ⟨b, 3, none⟩ (.string ⟨#[]⟩)).setCell ⟨b, 4, none⟩ (.int .i64 0)).setCell ⟨b, 5, none⟩ (.string ⟨#[]⟩)).setCell ⟨b, 6, none⟩ (.slice none 0 0)).setCell ⟨b, 7, none⟩ (.slice none 0 0)).drew := by
  subst hbw
  have h := parse_no hl hb hk
  simp only [nulCells, World.setCells] at h
  exact h.drew

set_option maxRecDepth 100000 in
set_option maxHeartbeats 4000000 in
theorem parse_bad (E : ErrV) (s : ByteArray) (w : World) (hs : s.size ≤ 1048576) (hP : PEnv E w) (k : Nat) (pe : PE) (hv : valF s 64 (gapTo s 0) = .no k pe) :
    Calls Tryz.prog 27 #[.string s] w fun e w' => ParseGives E w (.no k pe) e w' := by
  obtain ⟨TT, pp, hsyn⟩ := hP.syn
  have hb := ((Below.refl _ w).alloc (Nat.le_refl _) (.cells #[.int .i64 0, .bool false, .bool false, .string ⟨#[]⟩, .int .i64 0, .string ⟨#[]⟩, .slice none 0 0, .slice none 0 0] 27)).alloc (by simp) (.cells #[.string s, .int .i64 0, .int .i64 0] 92)
  obtain ⟨e0, e1⟩ := boxes w (.cells #[.int .i64 0, .bool false, .bool false, .string ⟨#[]⟩, .int .i64 0, .string ⟨#[]⟩, .slice none 0 0, .slice none 0 0] 27) (.cells #[.string s, .int .i64 0, .int .i64 0] 92)
  have hR0 : RS E w s 0 0 (w.heap.size + 1) ((w.alloc (.cells #[.int .i64 0, .bool false, .bool false, .string ⟨#[]⟩, .int .i64 0, .string ⟨#[]⟩, .slice none 0 0, .slice none 0 0] 27)).alloc (.cells #[.string s, .int .i64 0, .int .i64 0] 92)) := ⟨e1, by omega, hb, hP.errs, hP.facts, hs, Nat.zero_le _⟩
  have hsz2 : (s.size : Int) ≤ 1048576 := by omega
  have cG := gap_r hR0
  have cV := fun (W : World) (hW : RS E w s (gapTo s 0) 0 (w.heap.size + 1) W) => value_any TT pp hsyn 64 (Nat.le_refl _) (gapTo s 0) W hW
  generalize gapTo s 0 = i0 at *
  rw [hv] at cV
  clear hv
  replace e0 := Aside0.mk e0
  replace hR0 := Aside0.mk hR0
  replace hP := Aside0.mk hP
  go_enter Tryz.func27, Tryz.ntmps27
  go_wp2_with (first
    | (go_at_call 59; refine (as_fault kk w4.heap.size _ hn5.out hE5.out).mono ?_; rintro e w6 ⟨rfl, hf6, hW6⟩; have hcf := cellAll hf6; have hbx6 := (hW6.block _ (blk_lt hbx5.out) (by intro e; injection e with e; exact hne5.out e)).trans hbx5.out; have hc6 := cellAll hbx6; have hfz6 := frozenAll hbx6; replace hf6 := Aside0.mk hf6; replace hbx6 := Aside0.mk hbx6)
    | (go_at_call 57; refine (gap_r hR3.out).mono ?_; rintro e w4 ⟨rfl, hR4, hW4⟩; have hbx4 := (hW4.block _ (blk_lt hbx3.out) (by intro e; injection e with e; omega)).trans hbx3.out; have hk4 := Aside0.mk ((hW4.block _ (blk_lt hk3.out) (by intro e; injection e with e; exact hkr.out e)).trans hk3.out); have hB5 := (Below.refl w4.heap.size w4).alloc (Nat.le_refl _) (.cells #[.pointer none] 94); have hn5 := Aside0.mk (heap_alloc_new w4 (.cells #[.pointer none] 94)); have hR5 := Aside0.mk (hR4.below hB5); have hE5 := Aside0.mk (pw_cell_below hR5.out.low hP.out.et); have hbx5 := Aside0.mk ((hB5.block _ (blk_lt hbx4)).trans hbx4); have hk5 := Aside0.mk ((hB5.block _ (blk_lt hk4.out)).trans hk4.out); have hne5 : Aside0 (w.heap.size ≠ w4.heap.size) := ⟨by have := blk_lt hbx4; omega⟩; clear hB5 hbx4)
    | (go_at_call 58; refine (cV _ hR1).mono ?_; rintro e w2 ⟨x, cs, v, rfl, hM, ⟨⟨kk, rfl, hk⟩, j', o', hR2⟩, hW2⟩; obtain ⟨l, f, rfl, hRl, hRf⟩ := kV_openM hM; obtain ⟨Al, cl, rfl⟩ := Kd.R_slice hRl; obtain ⟨Af, cf, rfl⟩ := Kd.R_slice hRf; clear hRl hRf; unfold JV.cells at hM ⊢; replace hM := Aside0.mk hM; have hB3 := (Below.refl w2.heap.size w2).alloc (Nat.le_refl _) (.cells #[.int .i64 x.kind, .bool x.truth, .bool x.neg, .string x.digits, .int .i64 x.exp, .string x.text, .slice Al x.list.length cl, .slice Af x.fields.length cf] 27); have hkr := Aside0.mk (blk_ne hk hR2.rd (by decide)); have hk3 := Aside0.mk ((hB3.block _ (blk_lt hk)).trans hk); have hbx2 := (hW2.block _ (blk_lt hbx1.out) (by intro e; injection e with e; omega)).trans hbx1.out; have hbx3 := Aside0.mk ((hB3.block _ (blk_lt hbx2)).trans hbx2); have hR3 := Aside0.mk (hR2.below hB3); clear hB3 hbx2 hk)
    | (go_at_call 57; refine cG.mono ?_; rintro e w1 ⟨rfl, hR1, hW1⟩; have hbx1 := Aside0.mk ((hW1.block _ (blk_lt e0.out) (by intro e; injection e with e; omega)).trans e0.out)))
  have hneb : w.heap.size ≠ w4.heap.size := hne5.out
  have hneb' := Ne.symm hneb
  have hk6 := (hW6.block _ (blk_lt hk5.out) (by intro e; injection e with e; exact blk_ne hk5.out hn5.out (by decide) e)).trans hk5.out
  have hl6 := hR5.out.low.trans (hW6.below (Nat.le_of_lt (by have := blk_lt hbx5.out; have := hR4.rd.lt; omega)) (hR5.out.low.size))
  replace hk6 := Aside0.mk hk6
  replace hl6 := Aside0.mk hl6
  go_region_held3 (fun w' => w'.cell? ⟨w4.heap.size, 0, none⟩ = some (.pointer (some ⟨kk, 0, none⟩))) (first | (simp [hcf]; done) | (simp [hcf, World.cell?_setCell_far, hneb, hneb']; done)) (fail)
  all_goals (go_wp2_with fail)
  all_goals exact bodyPost_ret (v := .tuple #[.agg #[.int .i64 0, .bool false, .bool false, .string ⟨#[]⟩, .int .i64 0, .string ⟨#[]⟩, .slice none 0 0, .slice none 0 0], .iface 94 (.pointer (some ⟨kk, 0, none⟩))]) (by simp [results, Tryz.results27, go_sem, hc6]) rfl (parse_no8 rfl hl6.out ⟨_, hbx6.out⟩ hk6.out)
end Go.Proofs.YtkdeleafgailhaaGreatDoor
end
section
set_option linter.unusedVariables false
set_option linter.unusedSimpArgs false
namespace Go.Proofs.YtkdeleafgailhaaGreatDoor
open Go Go.RowKit Go.Proofs.YtkdeleafgailhaaGreatDoorW.PrintWords

set_option maxRecDepth 100000 in
set_option maxHeartbeats 4000000 in
theorem parse_more (E : ErrV) (s : ByteArray) (w : World) (hs : s.size ≤ 1048576) (hP : PEnv E w) (x0 : JV) (j0 : Nat) (hv : valF s 64 (gapTo s 0) = .ok x0 j0) (hend : gapTo s j0 < s.size) :
    Calls Tryz.prog 27 #[.string s] w fun e w' => ParseGives E w (.no (gapTo s j0) .due) e w' := by
  obtain ⟨TT, pp, hsyn⟩ := hP.syn
  have hb := ((Below.refl _ w).alloc (Nat.le_refl _) (.cells #[.int .i64 0, .bool false, .bool false, .string ⟨#[]⟩, .int .i64 0, .string ⟨#[]⟩, .slice none 0 0, .slice none 0 0] 27)).alloc (by simp) (.cells #[.string s, .int .i64 0, .int .i64 0] 92)
  obtain ⟨e0, e1⟩ := boxes w (.cells #[.int .i64 0, .bool false, .bool false, .string ⟨#[]⟩, .int .i64 0, .string ⟨#[]⟩, .slice none 0 0, .slice none 0 0] 27) (.cells #[.string s, .int .i64 0, .int .i64 0] 92)
  have hR0 : RS E w s 0 0 (w.heap.size + 1) ((w.alloc (.cells #[.int .i64 0, .bool false, .bool false, .string ⟨#[]⟩, .int .i64 0, .string ⟨#[]⟩, .slice none 0 0, .slice none 0 0] 27)).alloc (.cells #[.string s, .int .i64 0, .int .i64 0] 92)) := ⟨e1, by omega, hb, hP.errs, hP.facts, hs, Nat.zero_le _⟩
  have hsz2 : (s.size : Int) ≤ 1048576 := by omega
  have cG := gap_r hR0
  have cV := fun (W : World) (hW : RS E w s (gapTo s 0) 0 (w.heap.size + 1) W) => value_any TT pp hsyn 64 (Nat.le_refl _) (gapTo s 0) W hW
  generalize gapTo s 0 = i0 at *
  rw [hv] at cV
  clear hv
  have cG2 := fun (W : World) (hW : RS E w s j0 0 (w.heap.size + 1) W) => gap_r hW
  generalize gapTo s j0 = j1 at *
  replace e0 := Aside0.mk e0
  replace hR0 := Aside0.mk hR0
  replace hP := Aside0.mk hP
  have hend2 : (j1 : Int) < (s.size : Int) := by omega
  go_enter Tryz.func27, Tryz.ntmps27
  go_wp2_with (first
    | (go_at_call 57; refine (cG2 _ hR3.out).mono ?_; rintro e w4 ⟨rfl, hR4, hW4⟩; have hbx4 := Aside0.mk ((hW4.block _ (blk_lt hbx3.out) (by intro e; injection e with e; omega)).trans hbx3.out); have hc4 := cellAll hR4.rd; have hd4 := hR4.er.due_cell)
    | (go_at_call 58; refine (cV _ hR1).mono ?_; rintro e w2 ⟨x, cs, v, rfl, hM, ⟨rfl, rfl, hR2⟩, hW2⟩; obtain ⟨l, f, rfl, hRl, hRf⟩ := kV_openM hM; obtain ⟨Al, cl, rfl⟩ := Kd.R_slice hRl; obtain ⟨Af, cf, rfl⟩ := Kd.R_slice hRf; clear hRl hRf; unfold JV.cells at hM ⊢; replace hM := Aside0.mk hM; have hB3 := (Below.refl w2.heap.size w2).alloc (Nat.le_refl _) (.cells #[.int .i64 x.kind, .bool x.truth, .bool x.neg, .string x.digits, .int .i64 x.exp, .string x.text, .slice Al x.list.length cl, .slice Af x.fields.length cf] 27); have hbx2 := (hW2.block _ (blk_lt hbx1.out) (by intro e; injection e with e; omega)).trans hbx1.out; have hbx3 := Aside0.mk ((hB3.block _ (blk_lt hbx2)).trans hbx2); have hR3 := Aside0.mk (hR2.below hB3); clear hB3 hbx2)
    | (go_at_call 57; refine cG.mono ?_; rintro e w1 ⟨rfl, hR1, hW1⟩; have hbx1 := Aside0.mk ((hW1.block _ (blk_lt e0.out) (by intro e; injection e with e; omega)).trans e0.out)))
  go_region_held3 (fun w' => w'.cell? ⟨w.heap.size + 1, 1, none⟩ = some (.int .i64 j1) ∧ w'.cell? ⟨1, 0, none⟩ = some (.iface 228 (.pointer (some E.due)))) (first | (simp [hc4, hd4]; done) | (simp [*]; done))
    (first | (go_at_call 56; refine (fail_any _ _ _ _).mono ?_; rintro e w9 ⟨v, rfl, ⟨kk, rfl, hk⟩, hb9⟩; have hb10 : Below w4.heap.size w4 w9 := ⟨hb9.os, hb9.tape, hb9.output, hb9.size, hb9.block⟩; have hR9 := hR4.below hb10; have hc9 := cellAll hR9.rd; have hd9 := hR9.er.due_cell; have hbx9 := Aside0.mk ((hb10.block _ (blk_lt hbx4.out)).trans hbx4.out); replace hk := Aside0.mk hk; have hB5 := (Below.refl w9.heap.size w9).alloc (Nat.le_refl _) (.cells #[.pointer none] 94); have hn5 := Aside0.mk (heap_alloc_new w9 (.cells #[.pointer none] 94)); have hR5 := Aside0.mk (hR9.below hB5); have hE5 := Aside0.mk (pw_cell_below hR5.out.low hP.out.et); have hbx5 := Aside0.mk ((hB5.block _ (blk_lt hbx9.out)).trans hbx9.out); have hk5 := Aside0.mk ((hB5.block _ (blk_lt hk.out)).trans hk.out); have hne5 : Aside0 (w.heap.size ≠ w9.heap.size) := ⟨by have := blk_lt hbx9.out; omega⟩; clear hB5))
  all_goals (go_wp2_with (go_at_call 59; refine (as_fault kk w9.heap.size _ hn5.out hE5.out).mono ?_; rintro e w6 ⟨rfl, hf6, hW6⟩; have hcf := cellAll hf6; have hbx6 := (hW6.block _ (blk_lt hbx5.out) (by intro e; injection e with e; exact hne5.out e)).trans hbx5.out; have hc6 := cellAll hbx6; have hfz6 := frozenAll hbx6; replace hf6 := Aside0.mk hf6; replace hbx6 := Aside0.mk hbx6))
  all_goals (have hneb : w.heap.size ≠ w9.heap.size := hne5.out)
  all_goals (have hneb' := Ne.symm hneb)
  all_goals (have hk6 := (hW6.block _ (blk_lt hk5.out) (by intro e; injection e with e; exact blk_ne hk5.out hn5.out (by decide) e)).trans hk5.out)
  all_goals (have hl6 := hR5.out.low.trans (hW6.below (Nat.le_of_lt (blk_lt hbx9.out)) hR5.out.low.size))
  all_goals (replace hk6 := Aside0.mk hk6)
  all_goals (replace hl6 := Aside0.mk hl6)
  all_goals (go_region_held3 (fun w' => w'.cell? ⟨w9.heap.size, 0, none⟩ = some (.pointer (some ⟨kk, 0, none⟩))) (first | (simp [hcf]; done) | (simp [hcf, World.cell?_setCell_far, hneb, hneb']; done)) (fail))
  all_goals (go_wp2_with fail)
  all_goals exact bodyPost_ret (v := .tuple #[.agg #[.int .i64 0, .bool false, .bool false, .string ⟨#[]⟩, .int .i64 0, .string ⟨#[]⟩, .slice none 0 0, .slice none 0 0], .iface 94 (.pointer (some ⟨kk, 0, none⟩))]) (by simp [results, Tryz.results27, go_sem, hc6]) rfl (parse_no8 rfl hl6.out ⟨_, hbx6.out⟩ hk6.out)
end Go.Proofs.YtkdeleafgailhaaGreatDoor
end
section
set_option linter.unusedVariables false
set_option linter.unusedSimpArgs false
namespace Go.Proofs.YtkdeleafgailhaaGreatDoor
open Go Go.RowKit Go.Proofs.YtkdeleafgailhaaGreatDoorW.PrintWords

theorem M_setCells {W : World} {base b : Nat} {x : JV} {cs : List Value} (h : kV.M W base (fun _ => True) x cs) (hb : b < base) (vs : List Value) (j : Nat) : kV.M (W.setCells b j vs) base (fun _ => True) x cs :=
  kV.M_mono (fun _ _ => trivial) (kV.M_move (fun k hk => setCells_far vs j k (by have := hk.2.1; omega)) (kV.M_bound h))
theorem M_read {r : Nat} {W W' : World} {base : Nat} {x : JV} {cs : List Value} (h : kV.M W base (fun _ => True) x cs) (hb : r < base) (hr : Read r W W') : kV.M W' base (fun _ => True) x cs :=
  kV.M_mono (fun _ _ => trivial) (kV.M_move (fun k hk => hr.block k hk.2.2.1 (by intro e; injection e with e; have := hk.2.1; omega)) (kV.M_bound h))
theorem got8 {E : ErrV} {w W : World} {j b : Nat} {x y : JV} {vl vf : Value} (hxy : x = y) (hbw : b = w.heap.size) (hl : Below w.heap.size w W) (hM : kV.M W (b + 1) (fun _ => True) x (x.cells vl vf)) :
    ParseGives E w (.ok y j) (.returned (.tuple #[.agg #[.int .i64 x.kind, .bool x.truth, .bool x.neg, .string x.digits, .int .i64 x.exp, .string x.text, vl, vf], .nilIface]))
      ((((((((W.setCell ⟨b, 0, none⟩ (.int .i64 x.kind)).setCell ⟨b, 1, none⟩ (.bool x.truth)).setCell ⟨b, 2, none⟩ (.bool x.neg)).setCell ⟨b, 3, none⟩ (.string x.digits)).setCell ⟨b, 4, none⟩ (.int .i64 x.exp)).setCell ⟨b, 5, none⟩ (.string x.text)).setCell ⟨b, 6, none⟩ vl).setCell ⟨b, 7, none⟩ vf) := by
  subst hxy
  have h1 := M_setCells hM (Nat.lt_succ_self b) (x.cells vl vf) 0
  have h2 := low_setCells hl (Nat.le_of_eq hbw.symm) (x.cells vl vf) 0
  have e1 : W.setCells b 0 (x.cells vl vf) = ((((((((W.setCell ⟨b, 0, none⟩ (.int .i64 x.kind)).setCell ⟨b, 1, none⟩ (.bool x.truth)).setCell ⟨b, 2, none⟩ (.bool x.neg)).setCell ⟨b, 3, none⟩ (.string x.digits)).setCell ⟨b, 4, none⟩ (.int .i64 x.exp)).setCell ⟨b, 5, none⟩ (.string x.text)).setCell ⟨b, 6, none⟩ vl).setCell ⟨b, 7, none⟩ vf) := by
    simp only [JV.cells, World.setCells]
  rw [e1] at h1 h2
  exact ⟨x.cells vl vf, rfl, kV.M_lower (by omega) h1, h2⟩

set_option maxRecDepth 100000 in
set_option maxHeartbeats 4000000 in
theorem parse_good (E : ErrV) (s : ByteArray) (w : World) (hs : s.size ≤ 1048576) (hP : PEnv E w) (x0 : JV) (j0 : Nat) (hv : valF s 64 (gapTo s 0) = .ok x0 j0) (hend : ¬ gapTo s j0 < s.size) :
    Calls Tryz.prog 27 #[.string s] w fun e w' => ParseGives E w (.ok x0.norm j0) e w' := by
  obtain ⟨TT, pp, hsyn⟩ := hP.syn
  have hb := ((Below.refl _ w).alloc (Nat.le_refl _) (.cells #[.int .i64 0, .bool false, .bool false, .string ⟨#[]⟩, .int .i64 0, .string ⟨#[]⟩, .slice none 0 0, .slice none 0 0] 27)).alloc (by simp) (.cells #[.string s, .int .i64 0, .int .i64 0] 92)
  obtain ⟨e0, e1⟩ := boxes w (.cells #[.int .i64 0, .bool false, .bool false, .string ⟨#[]⟩, .int .i64 0, .string ⟨#[]⟩, .slice none 0 0, .slice none 0 0] 27) (.cells #[.string s, .int .i64 0, .int .i64 0] 92)
  have hR0 : RS E w s 0 0 (w.heap.size + 1) ((w.alloc (.cells #[.int .i64 0, .bool false, .bool false, .string ⟨#[]⟩, .int .i64 0, .string ⟨#[]⟩, .slice none 0 0, .slice none 0 0] 27)).alloc (.cells #[.string s, .int .i64 0, .int .i64 0] 92)) := ⟨e1, by omega, hb, hP.errs, hP.facts, hs, Nat.zero_le _⟩
  have hsz2 : (s.size : Int) ≤ 1048576 := by omega
  have cG := gap_r hR0
  have cV := fun (W : World) (hW : RS E w s (gapTo s 0) 0 (w.heap.size + 1) W) => value_any TT pp hsyn 64 (Nat.le_refl _) (gapTo s 0) W hW
  have hwt := valF_wt s hs 64 _ _ _ hv
  generalize gapTo s 0 = i0 at *
  rw [hv] at cV
  clear hv
  have cG2 := fun (W : World) (hW : RS E w s j0 0 (w.heap.size + 1) W) => gap_r hW
  generalize gapTo s j0 = j1 at *
  replace e0 := Aside0.mk e0
  replace hR0 := Aside0.mk hR0
  replace hP := Aside0.mk hP
  have hend2 : ¬ ((j1 : Int) < (s.size : Int)) := by omega
  clear hend
  go_enter Tryz.func27, Tryz.ntmps27
  go_wp2_with (first
    | (go_at_call 9; refine (norm_any x _ _ hK5.out hF5.out (by omega) hxi).mono ?_; rintro e w7 ⟨cs7, rfl, hM7, hb7⟩; obtain ⟨l7, f7, rfl, hRl7, hRf7⟩ := kV_openM hM7; obtain ⟨Al7, cl7, rfl⟩ := Kd.R_slice hRl7; obtain ⟨Af7, cf7, rfl⟩ := Kd.R_slice hRf7; clear hRl7 hRf7; have hbx7 := (hb7.block _ (blk_lt hbx5.out)).trans hbx5.out; have hc7 := cellAll hbx7; have hfz7 := frozenAll hbx7; replace hbx7 := Aside0.mk hbx7; replace hM7 := Aside0.mk hM7; unfold JV.cells)
    | (go_at_call 59; refine (as_nil _ _ _).mono ?_; rintro e w6 ⟨rfl, rfl⟩)
    | (go_at_call 57; refine (cG2 _ hR3.out).mono ?_; rintro e w4 ⟨rfl, hR4, hW4⟩; have hbx4 := (hW4.block _ (blk_lt hbx3.out) (by intro e; injection e with e; omega)).trans hbx3.out; have hc4 := cellAll hR4.rd; have hM4 := M_read hM3.out hM3r.out hW4; have hbv4 := (hW4.block _ (blk_lt hbv3.out) (by intro e; injection e with e; exact hv3r.out e.symm)).trans hbv3.out; have hB5 := (Below.refl w4.heap.size w4).alloc (Nat.le_refl _) (.cells #[.pointer none] 94); have hbx5 := Aside0.mk ((hB5.block _ (blk_lt hbx4)).trans hbx4); have hcv5 := cellAll ((hB5.block _ (blk_lt hbv4)).trans hbv4); have hF5 := Aside0.mk (hR4.fct.below hB5); have hK5 := Aside0.mk (kV.K_below hB5 (kV.K_of_M hM4)); have hl5 := Aside0.mk (hR4.low.trans (hB5.mono hR4.low.size)); have hs5 := Aside0.mk (Nat.lt_of_lt_of_le (blk_lt hbx4) hB5.size); clear hB5 hbx4 hbv4 hM4)
    | (go_at_call 58; refine (cV _ hR1).mono ?_; rintro e w2 ⟨x, cs, v, rfl, hM, ⟨rfl, rfl, hR2⟩, hW2⟩; obtain ⟨l, f, rfl, hRl, hRf⟩ := kV_openM hM; obtain ⟨Al, cl, rfl⟩ := Kd.R_slice hRl; obtain ⟨Af, cf, rfl⟩ := Kd.R_slice hRf; clear hRl hRf; have hxw := hwt.1; have hxi := hwt.2; have hjs := hR2.at_le; clear hwt; unfold JV.cells at hM ⊢; have hM3r : Aside0 (w.heap.size + 1 < w1.heap.size) := ⟨hR1.rd.lt⟩; have hB3 := (Below.refl w2.heap.size w2).alloc (Nat.le_refl _) (.cells #[.int .i64 x.kind, .bool x.truth, .bool x.neg, .string x.digits, .int .i64 x.exp, .string x.text, .slice Al x.list.length cl, .slice Af x.fields.length cf] 27); have hM3 := Aside0.mk (kV.M_below hM hB3); have hbv3 := Aside0.mk (heap_alloc_new w2 (.cells #[.int .i64 x.kind, .bool x.truth, .bool x.neg, .string x.digits, .int .i64 x.exp, .string x.text, .slice Al x.list.length cl, .slice Af x.fields.length cf] 27)); have hv3r : Aside0 (w.heap.size + 1 ≠ w2.heap.size) := ⟨Nat.ne_of_lt hR2.rd.lt⟩; have hbx2 := (hW2.block _ (blk_lt hbx1.out) (by intro e; injection e with e; omega)).trans hbx1.out; have hbx3 := Aside0.mk ((hB3.block _ (blk_lt hbx2)).trans hbx2); have hR3 := Aside0.mk (hR2.below hB3); clear hB3 hbx2 hM)
    | (go_at_call 57; refine cG.mono ?_; rintro e w1 ⟨rfl, hR1, hW1⟩; have hbx1 := Aside0.mk ((hW1.block _ (blk_lt e0.out) (by intro e; injection e with e; omega)).trans e0.out)))
  all_goals exact bodyPost_ret (v := .tuple #[.agg #[.int .i64 x.norm.kind, .bool x.norm.truth, .bool x.norm.neg, .string x.norm.digits, .int .i64 x.norm.exp, .string x.norm.text, .slice Al7 x.norm.list.length cl7, .slice Af7 x.norm.fields.length cf7], .nilIface]) (by simp [results, Tryz.results27, go_sem, hc7]) rfl (got8 (x := x.norm) rfl rfl (hl5.out.trans (hb7.mono hl5.out.size)) (kV.M_lower hs5.out hM7.out))
end Go.Proofs.YtkdeleafgailhaaGreatDoor
end
section
set_option linter.unusedVariables false
set_option linter.unusedSimpArgs false
namespace Go.Proofs.YtkdeleafgailhaaGreatDoor
open Go Go.RowKit Go.Proofs.YtkdeleafgailhaaGreatDoorW.PrintWords

/-- **json.Parse** of a text of at most 1 MiB. -/
theorem parse_any (E : ErrV) (s : ByteArray) (w : World) (hs : s.size ≤ 1048576) (hP : PEnv E w) :
    Calls Tryz.prog 27 #[.string s] w fun e w' => ParseGives E w (parseTo s) e w' := by
  unfold parseTo
  cases hv : valF s 64 (gapTo s 0) with
  | no k pe => exact parse_bad E s w hs hP k pe hv
  | ok x j =>
    show Calls Tryz.prog 27 #[.string s] w fun e w' => ParseGives E w (if gapTo s j < s.size then .no (gapTo s j) .due else .ok x.norm j) e w'
    by_cases he : gapTo s j < s.size
    · rw [if_pos he]; exact parse_more E s w hs hP x j hv he
    · rw [if_neg he]; exact parse_good E s w hs hP x j hv he
theorem PEnv.below {E : ErrV} {w w' : World} (h : PEnv E w) (hb : Below w.heap.size w w') : PEnv E w' := by
  obtain ⟨TT, pp, hs⟩ := h.syn
  exact ⟨h.errs.below hb, h.facts.below hb, ⟨TT, pp, pw_cell_below hb hs⟩, pw_cell_below hb h.et⟩

/-- The statements' first text. -/
def text1 : ByteArray := ⟨#[32, 123, 34, 98, 34, 32, 58, 32, 91, 49, 46, 53, 48, 44, 32, 45, 48, 93, 44, 32, 34, 97, 34, 58, 34, 92, 117, 48, 48, 101, 57, 92, 47, 34, 125]⟩
def text2 : ByteArray := ⟨#[91, 49, 44, 93]⟩
def num15 : JV := .mk 2 false false ⟨#[49, 53]⟩ (-1) ⟨#[]⟩ [] []
def num0 : JV := .mk 2 false false ⟨#[]⟩ 0 ⟨#[]⟩ [] []
def val1 : JV := .mk 5 false false ⟨#[]⟩ 0 ⟨#[]⟩ [] [.mk ⟨#[97]⟩ (.mk 3 false false ⟨#[]⟩ 0 ⟨#[195, 169, 47]⟩ [] []), .mk ⟨#[98]⟩ (.mk 4 false false ⟨#[]⟩ 0 ⟨#[]⟩ [num15, num0] [])]
def print1 : ByteArray := ⟨#[123, 34, 97, 34, 58, 34, 195, 169, 47, 34, 44, 34, 98, 34, 58, 91, 49, 53, 101, 45, 49, 44, 48, 93, 125]⟩
theorem parse1 : parseTo text1 = .ok val1 35 := by kernel_rfl
theorem parse2 : parseTo text2 = .no 3 .due := by kernel_rfl
theorem printed1 : (⟨val1.print.toArray⟩ : ByteArray) = print1 := by kernel_rfl
theorem deep1 : val1.norm.deep = 2 := by kernel_rfl
theorem get1 : val1.get_ ⟨#[98]⟩ = (.mk 4 false false ⟨#[]⟩ 0 ⟨#[]⟩ [num15, num0] [], true) := by kernel_rfl
theorem at1 : (JV.mk 4 false false ⟨#[]⟩ 0 ⟨#[]⟩ [num15, num0] []).at_ 1 = (num0, true) := by kernel_rfl
theorem wt1 : val1.wt ≤ 100 := by decide +kernel
end Go.Proofs.YtkdeleafgailhaaGreatDoor
end
section
set_option linter.unusedVariables false
set_option linter.unusedSimpArgs false
namespace Go.Proofs.YtkdeleafgailhaaGreatDoor
open Go Go.RowKit Go.Proofs.YtkdeleafgailhaaGreatDoorW.PrintWords

mutual
/-- Each int is one of 64 bits, each text and row at most as long as may be. -/
def JV.fits : JV → Prop
  | .mk k _ _ d e s l f => (-9223372036854775808 ≤ k ∧ k ≤ 9223372036854775807) ∧ (-9223372036854775808 ≤ e ∧ e ≤ 9223372036854775807) ∧ d.size ≤ 140737488355328 ∧ s.size ≤ 140737488355328 ∧ l.length ≤ 140737488355328 ∧ f.length ≤ 140737488355328 ∧ JV.fitsL l ∧ JV.fitsF f
def JV.fitsL : List JV → Prop
  | [] => True
  | x :: xs => x.fits ∧ JV.fitsL xs
def JV.fitsF : List JF → Prop
  | [] => True
  | .mk nm v :: xs => nm.size ≤ 140737488355328 ∧ v.fits ∧ JV.fitsF xs
end
mutual
theorem fits_ints : ∀ (x : JV), x.fits → x.ints
  | .mk k t n d e s l f, h => by
    rw [JV.fits] at h
    rw [JV.ints]
    exact ⟨h.1, h.2.1, fitsL_ints l h.2.2.2.2.2.2.1, fitsF_ints f h.2.2.2.2.2.2.2⟩
theorem fitsL_ints : ∀ (l : List JV), JV.fitsL l → JV.intsL l
  | [], _ => by rw [JV.intsL]; trivial
  | x :: l, h => by rw [JV.fitsL] at h; rw [JV.intsL]; exact ⟨fits_ints x h.1, fitsL_ints l h.2⟩
theorem fitsF_ints : ∀ (l : List JF), JV.fitsF l → JV.intsF l
  | [], _ => by rw [JV.intsF]; trivial
  | .mk nm v :: l, h => by rw [JV.fitsF] at h; rw [JV.intsF]; exact ⟨fits_ints v h.2.1, fitsF_ints l h.2.2⟩
end
theorem fits_memL : ∀ {l : List JV} {y : JV}, y ∈ l → JV.fitsL l → y.fits
  | x :: l, y, h, hi => by
    rw [JV.fitsL] at hi
    rcases List.mem_cons.1 h with rfl | h
    · exact hi.1
    · exact fits_memL h hi.2
theorem fits_memF : ∀ {l : List JF} {y : JF}, y ∈ l → JV.fitsF l → y.name.size ≤ 140737488355328 ∧ y.value.fits
  | .mk nm v :: l, y, h, hi => by
    rw [JV.fitsF] at hi
    rcases List.mem_cons.1 h with rfl | h
    · exact ⟨hi.1, hi.2.1⟩
    · exact fits_memF h hi.2.2

def ManyOK (x : JV) : Prop := ∀ (w : World) (cs : List Value) (n a : Nat), kV.K w x cs → x.fits → n ≤ 140737492549632 → a ≤ 65537 →
  Calls Tryz.prog 26 #[.agg cs.toArray, .int .i64 n, .int .i64 a] w fun e w' => ∃ r : Nat, e = .returned (.int .i64 r) ∧ r ≤ 1125899906842624 ∧ (r ≤ 4194304 → n + x.wt ≤ r) ∧ Below w.heap.size w w'

theorem many_stop (w : World) (k : Int) (t ng : Bool) (ds tx : ByteArray) (ex : Int) (A B : Option Addr) (nl c nf d : Nat) (n a : Nat) (ha : ¬ a ≤ 65536) :
    Calls Tryz.prog 26 #[.agg #[.int .i64 k, .bool t, .bool ng, .string ds, .int .i64 ex, .string tx, .slice A nl c, .slice B nf d], .int .i64 n, .int .i64 a] w fun e w' => e = .returned (.int .i64 4194305) ∧ Below w.heap.size w w' := by
  have hb0 := (Below.refl _ w).alloc (Nat.le_refl _) (.cells #[.int .i64 k, .bool t, .bool ng, .string ds, .int .i64 ex, .string tx, .slice A nl c, .slice B nf d] 27)
  have ha2 : (65536 : Int) < (a : Int) := by omega
  go_enter Tryz.func26, Tryz.ntmps26
  go_wp2_with fail
  go_ret
  exact ⟨rfl, hb0⟩

/-- The count behind a round: m, of which so much is told: p. -/
def Told (m p : Nat) : Prop := m ≤ 1125899906842624 ∧ (m ≤ 4194304 → p ≤ m)

set_option maxRecDepth 100000 in
set_option maxHeartbeats 8000000 in
theorem many_go (w : World) (k : Int) (t ng : Bool) (ds tx : ByteArray) (ex : Int) (A B : Option Addr) (c d : Nat) (n a : Nat) (l : List JV) (f : List JF) (hn : n ≤ 140737492549632) (ha : a ≤ 65536)
    (hcl : l.length ≤ c) (hCl : kV.C w A l.length l) (hcf : f.length ≤ d) (hCf : kF.C w B f.length f) (hds : ds.size ≤ 140737488355328) (htx : tx.size ≤ 140737488355328) (hll : l.length ≤ 140737488355328) (hfl : f.length ≤ 140737488355328)
    (hl : ∀ y ∈ l, ManyOK y) (hf : ∀ g ∈ f, ManyOK g.value) (hfL : JV.fitsL l) (hfF : JV.fitsF f) :
    Calls Tryz.prog 26 #[.agg #[.int .i64 k, .bool t, .bool ng, .string ds, .int .i64 ex, .string tx, .slice A l.length c, .slice B f.length d], .int .i64 n, .int .i64 a] w fun e w' => ∃ r : Nat, e = .returned (.int .i64 r) ∧ Told r (n + (1 + ds.size + tx.size + JV.wtL l + JV.wtF f)) ∧ Below w.heap.size w w' := by
  obtain ⟨W0, hW0⟩ : ∃ W0, w.alloc (.cells #[.int .i64 k, .bool t, .bool ng, .string ds, .int .i64 ex, .string tx, .slice A l.length c, .slice B f.length d] 27) = W0 := ⟨_, rfl⟩
  have hb0 : Below w.heap.size w W0 := by rw [← hW0]; exact (Below.refl _ w).alloc (Nat.le_refl _) _
  have hbx : W0.heap[w.heap.size]? = some (.cells #[.int .i64 k, .bool t, .bool ng, .string ds, .int .i64 ex, .string tx, .slice A l.length c, .slice B f.length d] 27 (0, 0)) := by rw [← hW0]; exact heap_alloc_new w _
  have hc0 := cellAll hbx
  have ha2 : ¬ (65536 : Int) < (a : Int) := by omega
  have hCl0 := Kd.C_below hCl hb0
  have hCf0 := Kd.C_below hCf hb0
  clear hCl hCf
  replace hbx := Aside0.mk hbx
  replace hb0 := Aside0.mk hb0
  have w1 : IntKind.i64.wrap ((n : Int) + 1) = (n : Int) + 1 := by rw [IntKind.wrap_i64]; omega
  go_enter Tryz.func26, Tryz.ntmps26
  go_wp2_with fail
  go_loopw [1, 7] (fun q i wr => ∃ j m : Nat, i = .int .i64 j ∧ q = .int .i64 m ∧ j ≤ l.length ∧ Told m (n + (1 + ds.size + tx.size + f.length + (l.length - j) + JV.wtL (l.take j))) ∧ Below W0.heap.size W0 wr) (fun _ i _ => l.length - (intOf i).toNat)
  case atStart =>
    refine ⟨0, n + (1 + ds.size + tx.size + f.length + l.length), rfl, ?_, Nat.zero_le _, ⟨by omega, fun _ => ?_⟩, Below.refl _ _⟩
    · congr 1; omega
    · rw [List.take_zero, JV.wtL]; omega
  case round =>
    obtain ⟨j, m, rfl, rfl, hj, hT, hB⟩ := hrel
    obtain ⟨hm50, hT⟩ := hT
    have hbr := (hB.block w.heap.size (blk_lt hbx.out)).trans hbx.out
    have hcr := cellAll hbr
    replace hbr := Aside0.mk hbr
    by_cases hgo : j < l.length ∧ m ≤ 4194304
    · obtain ⟨hjl, hml⟩ := hgo
      have h1 : (j : Int) < (l.length : Int) := by omega
      have h2 : (m : Int) ≤ 4194304 := by omega
      obtain ⟨ad, x, A6, c6, A7, c7, rfl, hx, hcs, l6, g6, l7, g7⟩ := at_V (Kd.C_below hCl0 hB) j hjl
      have hK := kV_mkK l6 g6 l7 g7
      unfold JV.cells at hcs hK
      obtain ⟨q0, q1, q2, q3, q4, q5, q6, q7, _⟩ := hcs
      have hxm : x ∈ l := List.mem_of_getElem? hx
      have cM := hl x hxm wr _ m (a + 1) hK (fits_memL hxm hfL) (by omega) (by omega)
      have hsn : JV.wtL (l.take (j + 1)) = JV.wtL (l.take j) + (1 + x.wt) := by
        rw [List.take_add_one, hx, Option.toList_some, wtL_app, JV.wtL, JV.wtL]; omega
      replace hsn := Aside0.mk hsn
      replace hx := Aside0.mk hx
      replace hT := Aside0.mk hT
      clear hK hxm
      rw [show (((a + 1 : Nat) : Int)) = (a : Int) + 1 by omega] at cM
      go_wp2_with (go_at_call 26; refine cM.mono ?_; rintro e w1 ⟨r, rfl, hr50, hrw, hb4⟩)
      go_roundw
      case rel =>
        refine ⟨j + 1, r, by go_num, rfl, by omega, ⟨hr50, fun h => ?_⟩, hB.trans (hb4.mono hB.size)⟩
        have h3 := hrw h
        have h4 := hT.out (by omega)
        rw [hsn.out]
        omega
      case measure => simp [intOf]; omega
    · have hT2 : Aside0 (Told m (n + (1 + ds.size + tx.size + f.length + JV.wtL l))) := by
        refine ⟨hm50, fun h => ?_⟩
        have h3 := hT h
        have hjl : j = l.length := by omega
        rw [hjl, List.take_length] at h3
        omega
      have hor : ¬ ((j : Int) < (l.length : Int)) ∨ ((j : Int) < (l.length : Int) ∧ ¬ ((m : Int) ≤ 4194304)) := by omega
      clear hgo hT
      rcases hor with h1 | ⟨h1, h2⟩
      all_goals (go_wp2_with fail)
      all_goals (go_loopw [1, 8] (fun q i wr2 => ∃ j m : Nat, i = .int .i64 j ∧ q = .int .i64 m ∧ j ≤ f.length ∧ Told m (n + (1 + ds.size + tx.size + (f.length - j) + JV.wtL l + JV.wtF (f.take j))) ∧ Below W0.heap.size W0 wr2) (fun _ i _ => f.length - (intOf i).toNat))
      all_goals (try (refine ⟨0, m, rfl, rfl, Nat.zero_le _, ⟨hT2.out.1, fun h => ?_⟩, hB⟩; have h3 := hT2.out.2 h; rw [List.take_zero, JV.wtF]; omega))
      all_goals (obtain ⟨i, q, rfl, rfl, hi, ⟨hq50, hTq⟩, hB2⟩ := hrel)
      all_goals (have hbr2 := (hB2.block w.heap.size (blk_lt hbx.out)).trans hbx.out)
      all_goals (have hcr2 := cellAll hbr2)
      all_goals (replace hbr2 := Aside0.mk hbr2)
      all_goals (by_cases hgo2 : i < f.length ∧ q ≤ 4194304)
      iterate 2
        · obtain ⟨hil, hql⟩ := hgo2
          have k1 : (i : Int) < (f.length : Int) := by omega
          have k2 : (q : Int) ≤ 4194304 := by omega
          obtain ⟨ad, x, A6, c6, A7, c7, rfl, hx, hcs, l6, g6, l7, g7⟩ := at_F (Kd.C_below hCf0 hB2) i hil
          have hK := kV_mkK l6 g6 l7 g7
          unfold JV.cells at hcs hK
          obtain ⟨q0, q1, q2, q3, q4, q5, q6, q7, q8, _⟩ := hcs
          have hxm : x ∈ f := List.mem_of_getElem? hx
          have hfm := fits_memF hxm hfF
          have hnm := hfm.1
          have cM := fun (W : World) (hW : Below wr.heap.size wr W) => hf x hxm W _ (q + x.name.size) (a + 1) (kV.K_below hW hK) hfm.2 (by omega) (by omega)
          have hsn : JV.wtF (f.take (i + 1)) = JV.wtF (f.take i) + (1 + x.name.size + x.value.wt) := by
            rw [List.take_add_one, hx, Option.toList_some, wtF_app]
            obtain ⟨xn, xv⟩ := x
            rw [JV.wtF, JV.wtF]
            simp only [JF.name, JF.value]
            omega
          replace hsn := Aside0.mk hsn
          replace hx := Aside0.mk hx
          replace hTq := Aside0.mk hTq
          replace hT2 := Aside0.mk hT2
          clear hK hxm hfm
          rw [show (((a + 1 : Nat) : Int)) = (a : Int) + 1 by omega, show (((q + x.name.size : Nat) : Int)) = (q : Int) + (x.name.size : Int) by omega] at cM
          go_wp2_with fail
          go_still_tail 17, (by kernel_rfl)
          change wpList _ _ _ _ _ wr.drew
          have cM2 := cM wr.drew (Below.refl _ wr).drew
          go_wp2_with (go_at_call 26; refine cM2.mono ?_; rintro e w1 ⟨r, rfl, hr50, hrw, hb4⟩)
          go_roundw
          case rel =>
            refine ⟨i + 1, r, by go_num, rfl, by omega, ⟨hr50, fun h => ?_⟩, hB2.trans ((Below.refl _ wr).drew.trans hb4 |>.mono hB2.size)⟩
            have h3 := hrw h
            have h4 := hTq.out (by omega)
            rw [hsn.out]
            omega
          case measure => simp [intOf]; omega
        · have hT3 : Aside0 (Told q (n + (1 + ds.size + tx.size + JV.wtL l + JV.wtF f))) := by
            refine ⟨⟨hq50, fun h => ?_⟩⟩
            have h3 := hTq h
            have hil : i = f.length := by omega
            rw [hil, List.take_length] at h3
            omega
          have hor2 : ¬ ((i : Int) < (f.length : Int)) ∨ ((i : Int) < (f.length : Int) ∧ ¬ ((q : Int) ≤ 4194304)) := by omega
          clear hgo2 hTq hT2
          rcases hor2 with h1 | ⟨h1, h2⟩
          all_goals (go_wp2_with fail)
          all_goals go_ret
          all_goals exact ⟨q, rfl, hT3.out, hb0.out.trans (hB2.mono hb0.out.size)⟩

theorem many_step (x : JV) (hl : ∀ y ∈ x.list, ManyOK y) (hf : ∀ f ∈ x.fields, ManyOK f.value) : ManyOK x := by
  intro w cs n a hK hx hn ha
  obtain ⟨A, c, B, d, rfl, hV⟩ := VC.of hK
  obtain ⟨k, t, ng, ds, ex, tx, l, f⟩ := x
  obtain ⟨_, hlc, hCl, hfc, hCf⟩ := hV
  rw [JV.fits] at hx
  obtain ⟨_, _, h1, h2, h3, h4, h5, h6⟩ := hx
  unfold JV.cells
  simp only [JV.kind, JV.truth, JV.neg, JV.digits, JV.exp, JV.text, JV.list, JV.fields] at *
  by_cases ha2 : a ≤ 65536
  · refine (many_go w k t ng ds tx ex A B c d n a l f hn ha2 hlc hCl hfc hCf h1 h2 h3 h4 hl hf h5 h6).mono ?_
    rintro e w' ⟨r, rfl, ⟨hr, hrw⟩, hb⟩
    refine ⟨r, rfl, hr, fun h => ?_, hb⟩
    rw [JV.wt]
    exact hrw h
  · refine (many_stop w k t ng ds tx ex A B _ c _ d n a ha2).mono ?_
    rintro e w' ⟨rfl, hb⟩
    exact ⟨4194305, rfl, by omega, fun h => by omega, hb⟩
theorem many_all : ∀ (n : Nat) (x : JV), x.wt ≤ n → ManyOK x
  | 0, .mk k t ng ds ex tx l f, h => by rw [JV.wt] at h; omega
  | n + 1, .mk k t ng ds ex tx l f, h => by
    rw [JV.wt] at h
    exact many_step _ (fun y hy => many_all n y (by have := wt_memL hy; simp only [JV.list] at this; omega)) (fun g hg => many_all n _ (by have := wt_memF hg; simp only [JV.fields] at this; omega))
theorem many_any (x : JV) : ManyOK x := many_all _ x (Nat.le_refl _)

set_option maxRecDepth 100000 in
set_option maxHeartbeats 4000000 in
/-- **voyagelaw02.heavy**: what is not heavy is of a weight of at most 2^22. -/
theorem heavy_any (x : JV) (w : World) (cs : List Value) (hK : kV.K w x cs) (hx : x.fits) :
    Calls Tryz.prog 6 #[.agg cs.toArray] w fun e w' => ∃ b : Bool, e = .returned (.bool b) ∧ (b = false → x.wt ≤ 4194304) ∧ Below w.heap.size w w' := by
  obtain ⟨A, c, B, d, rfl, _⟩ := VC.of hK
  have hB0 := (Below.refl _ w).alloc (Nat.le_refl _) (.cells #[.int .i64 x.kind, .bool x.truth, .bool x.neg, .string x.digits, .int .i64 x.exp, .string x.text, .slice A x.list.length c, .slice B x.fields.length d] 27)
  have hc0 := cellAll (heap_alloc_new w (.cells #[.int .i64 x.kind, .bool x.truth, .bool x.neg, .string x.digits, .int .i64 x.exp, .string x.text, .slice A x.list.length c, .slice B x.fields.length d] 27))
  have cM := many_any x _ _ 0 0 (kV.K_below hB0 hK) hx (by omega) (by omega)
  unfold JV.cells at *
  replace hB0 := Aside0.mk hB0
  clear hK
  go_enter Tryz.func6, Tryz.ntmps6
  go_wp2_with (go_at_call 26; refine cM.mono ?_; rintro e w1 ⟨r, rfl, hr50, hrw, hb4⟩)
  go_ret
  refine ⟨decide ((4194304 : Int) < (r : Int)), rfl, fun h => ?_, hB0.out.trans (hb4.mono (by simp))⟩
  have h2 := of_decide_eq_false h
  have := hrw (by omega)
  omega
end Go.Proofs.YtkdeleafgailhaaGreatDoor
end
