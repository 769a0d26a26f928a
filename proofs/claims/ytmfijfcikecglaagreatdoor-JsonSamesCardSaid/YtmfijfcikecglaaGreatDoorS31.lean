/- voyageref02.printed: bytes, and a value behind them, told. voyageref02.printed at lists. voyageref02.printed at objects, and of every value in its one form. voyageref02.Exps is true of every value in its one form. voyageref02.Sound, voyageref02.Print. -/
import Derived.Test.YtmfijfcikecglaaGreatDoorS30
import Derived.Test.YtmfijfcikecglaaGreatDoorS9
import Derived.Test.YtmfijfcikecglaaGreatDoorS25
section
set_option linter.unusedVariables false
set_option linter.unusedSimpArgs false
namespace Go.Proofs.YtmfijfcikecglaaGreatDoor
open Go Go.RowKit Go.Proofs.YtmfijfcikecglaaGreatDoorW.PrintWords

/-! ### plain -/
/-- Elements told, commas between. -/
def jnL : List JV → List UInt8
  | [] => []
  | x :: xs => x.put ++ JV.putL 44 xs
def jnF : List JF → List UInt8
  | [] => []
  | .mk nm v :: xs => quoted nm ++ (58 :: (v.put ++ JV.putF 44 xs))
theorem putJ_snocL (x : JV) : ∀ (l : List JV), JV.putL 44 (l ++ [x]) = JV.putL 44 l ++ 44 :: x.put
  | [] => by rw [List.nil_append, JV.putL, JV.putL, JV.putL]; simp
  | y :: l => by rw [List.cons_append, JV.putL, JV.putL, putJ_snocL x l]; simp
theorem putJ_snocF (nm : ByteArray) (v : JV) : ∀ (l : List JF), JV.putF 44 (l ++ [.mk nm v]) = JV.putF 44 l ++ 44 :: (quoted nm ++ (58 :: v.put))
  | [] => by rw [List.nil_append, JV.putF, JV.putF, JV.putF]; simp
  | .mk n2 v2 :: l => by rw [List.cons_append, JV.putF, JV.putF, putJ_snocF nm v l]; simp
theorem jnL_snoc (x : JV) (l : List JV) : jnL (l ++ [x]) = if l.length = 0 then x.put else jnL l ++ 44 :: x.put := by
  cases l with
  | nil => simp [jnL, JV.putL]
  | cons y l => rw [if_neg (by simp), List.cons_append, jnL, jnL, putJ_snocL]; simp
theorem jnF_snoc (nm : ByteArray) (v : JV) (l : List JF) : jnF (l ++ [.mk nm v]) = if l.length = 0 then quoted nm ++ (58 :: v.put) else jnF l ++ 44 :: (quoted nm ++ (58 :: v.put)) := by
  cases l with
  | nil => simp [jnF, JV.putF]
  | cons y l => obtain ⟨n2, v2⟩ := y; rw [if_neg (by simp), List.cons_append, jnF, jnF, putJ_snocF]; simp
theorem put_listJ (t ng : Bool) (ds tx : ByteArray) (ex : Int) (l : List JV) (f : List JF) : (JV.mk 4 t ng ds ex tx l f).put = 91 :: (jnL l ++ [93]) := by
  rw [JV.put]
  show JV.putL 91 l ++ (if l.length = 0 then [91, 93] else [93]) = _
  cases l with
  | nil => rw [JV.putL]; rfl
  | cons x xs => rw [JV.putL, if_neg (by simp), jnL]; rfl
theorem put_objJ (t ng : Bool) (ds tx : ByteArray) (ex : Int) (l : List JV) (f : List JF) : (JV.mk 5 t ng ds ex tx l f).put = 123 :: (jnF f ++ [125]) := by
  rw [JV.put]
  show JV.putF 123 f ++ (if f.length = 0 then [123, 125] else [125]) = _
  cases f with
  | nil => rw [JV.putF]; rfl
  | cons x xs => obtain ⟨nm, v⟩ := x; rw [JV.putF, if_neg (by simp), jnF]; rfl
theorem jnL_len (l : List JV) : (jnL l).length ≤ 32 * JV.wtL l := by
  cases l with
  | nil => simp [jnL]
  | cons x xs =>
    have h1 := put_len x
    have h2 := putL_len xs 44
    rw [jnL, JV.wtL, List.length_append]
    omega
theorem jnF_len (l : List JF) : (jnF l).length ≤ 32 * JV.wtF l := by
  cases l with
  | nil => simp [jnF]
  | cons x xs =>
    obtain ⟨nm, v⟩ := x
    have h := putF_len (.mk nm v :: xs) 123
    rw [JV.putF, List.length_cons] at h
    rw [jnF]
    omega

theorem quoted_len2 (t : ByteArray) (hv : Lib.validD t.data.toList = true) : (34 :: (tbs t.data.toList ++ [34])).length ≤ 2 + 6 * t.size := by
  have h1 := tbs_len t.data.toList
  have h5 : t.data.toList.length = t.size := Array.length_toList
  simp only [List.length_cons, List.length_append, List.length_nil]
  omega

/-! ### in memory -/
/-- Boxes of values stay. -/
def BoxKept (w w' : World) : Prop := ∀ (b : Nat) (cs : Array Value), w.heap[b]? = some (.cells cs 27 (0, 0)) → w'.heap[b]? = some (.cells cs 27 (0, 0))
theorem BoxKept.trans {a b c : World} (h : BoxKept a b) (k : BoxKept b c) : BoxKept a c := fun i cs hi => k i cs (h i cs hi)
theorem BoxKept.of_below {a b : World} (h : Below a.heap.size a b) : BoxKept a b := fun i cs hi => (h.block i (blk_lt hi)).trans hi
theorem BoxKept.of_grown {a b : World} {base n : Nat} {v : Value} {xs : List Value} (ho : a.ownsRow base 5 1 v n xs) (h : a.grownBy b v.ownBlock) : BoxKept a b := fun i cs hi => by
  refine (h.block i (blk_lt hi) ?_).trans hi
  intro e
  rcases ho.2 with ⟨rfl, _⟩ | ⟨g, cap, cur, rfl, _, hg, _⟩
  · simp [Value.ownBlock] at e
  · have : i = g := by simpa [Value.ownBlock] using e
    subst this
    rw [hg] at hi
    injection hi with hi
    injection hi with _ ht
    exact absurd ht (by decide)
/-- A row of bytes of one's own. -/
def Bytes (base : Nat) (w : World) (v : Value) (L : List UInt8) : Prop := w.ownsRow base 5 1 v (nat8 L).length (nums .u8 (nat8 L))
theorem Bytes.below {base : Nat} {w w' : World} {v : Value} {L : List UInt8} (h : Bytes base w v L) (hb : Below w.heap.size w w') : Bytes base w' v L := pw_own_below h hb
def PrintedOK (x : JV) : Prop := ∀ (w0 w : World) (base : Nat) (v : Value) (L : List UInt8) (cs : List Value), kV.K w0 x cs → Facts w0 → Below w0.heap.size w0 w → w0.heap.size ≤ base → base ≤ w.heap.size → Bytes base w v L → x.wt ≤ 4294967296 → x.ints → L.length + 64 * x.wt ≤ 140737488355328 →
  Calls Tryz.prog 42 #[v, .agg cs.toArray] w fun e w' => ∃ v', e = .returned v' ∧ Bytes base w' v' (L ++ x.put) ∧ Below base w w' ∧ BoxKept w w'

set_option maxRecDepth 100000 in
set_option maxHeartbeats 4000000 in
theorem printed_true (w : World) (base : Nat) (v : Value) (L : List UInt8) (hbs : base ≤ w.heap.size) (hown : Bytes base w v L) (hl : L.length + 64 ≤ 140737488355328) (k : Int) (t ng : Bool) (ds tx : ByteArray) (ex : Int) (A B : Option Addr) (nl c nf d : Nat) :
    Calls Tryz.prog 42 #[v, .agg #[.int .i64 1, .bool true, .bool ng, .string ds, .int .i64 ex, .string tx, .slice A nl c, .slice B nf d]] w fun e w' => ∃ v', e = .returned v' ∧ Bytes base w' v' (L ++ [116, 114, 117, 101]) ∧ Below base w w' ∧ BoxKept w w' := by
  have hb1 := (Below.refl w.heap.size w).alloc (Nat.le_refl _) (.cells #[.int .i64 1, .bool true, .bool ng, .string ds, .int .i64 ex, .string tx, .slice A nl c, .slice B nf d] 27)
  have hB1' : Below base w (w.alloc (.cells #[.int .i64 1, .bool true, .bool ng, .string ds, .int .i64 ex, .string tx, .slice A nl c, .slice B nf d] 27)) := (Below.refl base w).alloc hbs _
  have hown' := hown.below hb1
  have hK0 := BoxKept.of_below hb1
  have hs1 : base ≤ (w.alloc (.cells #[.int .i64 1, .bool true, .bool ng, .string ds, .int .i64 ex, .string tx, .slice A nl c, .slice B nf d] 27)).heap.size := Nat.le_trans hbs hb1.size
  go_enter Tryz.func42, Tryz.ntmps42
  go_wp2_with ((with_reducible refine gate_builtin (b := .append) (xs := #[.tmp 13, .const (.string ⟨#[116, 114, 117, 101]⟩)]) rfl ?_); at_builtin; refine print_append_str (w0 := w) base rfl (.tmp 13) (.const (.string ⟨#[116, 114, 117, 101]⟩)) 55 9 5 rfl Tryz.underlying55 Tryz.underlying9 (by kernel_rfl) _ (nat8 L) ⟨#[116, 114, 117, 101]⟩ rfl rfl hown' hB1' hs1 (by rw [nat8_len]; exact Nat.le_trans (Nat.add_le_add_left (by decide : (⟨#[116, 114, 117, 101]⟩ : ByteArray).size ≤ 64) _) hl) ?_; intro v1 w9 hown1 hB1 hg; have hk1 := BoxKept.of_grown hown' hg; clear hg; rw [show bytesOf ⟨#[116, 114, 117, 101]⟩ = nat8 [116, 114, 117, 101] from rfl, ← nat8_app] at hown1)
  go_ret
  exact ⟨_, rfl, hown1, hB1, hK0.trans hk1⟩

set_option maxRecDepth 100000 in
set_option maxHeartbeats 4000000 in
theorem printed_false (w : World) (base : Nat) (v : Value) (L : List UInt8) (hbs : base ≤ w.heap.size) (hown : Bytes base w v L) (hl : L.length + 64 ≤ 140737488355328) (k : Int) (t ng : Bool) (ds tx : ByteArray) (ex : Int) (A B : Option Addr) (nl c nf d : Nat) :
    Calls Tryz.prog 42 #[v, .agg #[.int .i64 1, .bool false, .bool ng, .string ds, .int .i64 ex, .string tx, .slice A nl c, .slice B nf d]] w fun e w' => ∃ v', e = .returned v' ∧ Bytes base w' v' (L ++ [102, 97, 108, 115, 101]) ∧ Below base w w' ∧ BoxKept w w' := by
  have hb1 := (Below.refl w.heap.size w).alloc (Nat.le_refl _) (.cells #[.int .i64 1, .bool false, .bool ng, .string ds, .int .i64 ex, .string tx, .slice A nl c, .slice B nf d] 27)
  have hB1' : Below base w (w.alloc (.cells #[.int .i64 1, .bool false, .bool ng, .string ds, .int .i64 ex, .string tx, .slice A nl c, .slice B nf d] 27)) := (Below.refl base w).alloc hbs _
  have hown' := hown.below hb1
  have hK0 := BoxKept.of_below hb1
  have hs1 : base ≤ (w.alloc (.cells #[.int .i64 1, .bool false, .bool ng, .string ds, .int .i64 ex, .string tx, .slice A nl c, .slice B nf d] 27)).heap.size := Nat.le_trans hbs hb1.size
  go_enter Tryz.func42, Tryz.ntmps42
  go_wp2_with ((with_reducible refine gate_builtin (b := .append) (xs := #[.tmp 15, .const (.string ⟨#[102, 97, 108, 115, 101]⟩)]) rfl ?_); at_builtin; refine print_append_str (w0 := w) base rfl (.tmp 15) (.const (.string ⟨#[102, 97, 108, 115, 101]⟩)) 55 9 5 rfl Tryz.underlying55 Tryz.underlying9 (by kernel_rfl) _ (nat8 L) ⟨#[102, 97, 108, 115, 101]⟩ rfl rfl hown' hB1' hs1 (by rw [nat8_len]; exact Nat.le_trans (Nat.add_le_add_left (by decide : (⟨#[102, 97, 108, 115, 101]⟩ : ByteArray).size ≤ 64) _) hl) ?_; intro v1 w9 hown1 hB1 hg; have hk1 := BoxKept.of_grown hown' hg; clear hg; rw [show bytesOf ⟨#[102, 97, 108, 115, 101]⟩ = nat8 [102, 97, 108, 115, 101] from rfl, ← nat8_app] at hown1)
  go_ret
  exact ⟨_, rfl, hown1, hB1, hK0.trans hk1⟩

set_option maxRecDepth 100000 in
set_option maxHeartbeats 4000000 in
theorem printed_null (w : World) (base : Nat) (v : Value) (L : List UInt8) (hbs : base ≤ w.heap.size) (hown : Bytes base w v L) (hl : L.length + 64 ≤ 140737488355328) (k : Int) (t ng : Bool) (ds tx : ByteArray) (ex : Int) (A B : Option Addr) (nl c nf d : Nat) (h1 : ¬ k = 1) (h2 : ¬ k = 2) (h3 : ¬ k = 3) (h4 : ¬ k = 4) (h5 : ¬ k = 5) :
    Calls Tryz.prog 42 #[v, .agg #[.int .i64 k, .bool t, .bool ng, .string ds, .int .i64 ex, .string tx, .slice A nl c, .slice B nf d]] w fun e w' => ∃ v', e = .returned v' ∧ Bytes base w' v' (L ++ [110, 117, 108, 108]) ∧ Below base w w' ∧ BoxKept w w' := by
  have hb1 := (Below.refl w.heap.size w).alloc (Nat.le_refl _) (.cells #[.int .i64 k, .bool t, .bool ng, .string ds, .int .i64 ex, .string tx, .slice A nl c, .slice B nf d] 27)
  have hB1' : Below base w (w.alloc (.cells #[.int .i64 k, .bool t, .bool ng, .string ds, .int .i64 ex, .string tx, .slice A nl c, .slice B nf d] 27)) := (Below.refl base w).alloc hbs _
  have hown' := hown.below hb1
  have hK0 := BoxKept.of_below hb1
  have hs1 : base ≤ (w.alloc (.cells #[.int .i64 k, .bool t, .bool ng, .string ds, .int .i64 ex, .string tx, .slice A nl c, .slice B nf d] 27)).heap.size := Nat.le_trans hbs hb1.size
  have b1 : (k == 1) = false := by simpa using h1
  have b2 : (k == 2) = false := by simpa using h2
  have b3 : (k == 3) = false := by simpa using h3
  have b4 : (k == 4) = false := by simpa using h4
  have b5 : (k == 5) = false := by simpa using h5
  go_enter Tryz.func42, Tryz.ntmps42
  go_wp2_with ((with_reducible refine gate_builtin (b := .append) (xs := #[.tmp 98, .const (.string ⟨#[110, 117, 108, 108]⟩)]) rfl ?_); at_builtin; refine print_append_str (w0 := w) base rfl (.tmp 98) (.const (.string ⟨#[110, 117, 108, 108]⟩)) 55 9 5 rfl Tryz.underlying55 Tryz.underlying9 (by kernel_rfl) _ (nat8 L) ⟨#[110, 117, 108, 108]⟩ rfl rfl hown' hB1' hs1 (by rw [nat8_len]; exact Nat.le_trans (Nat.add_le_add_left (by decide : (⟨#[110, 117, 108, 108]⟩ : ByteArray).size ≤ 64) _) hl) ?_; intro v1 w9 hown1 hB1 hg; have hk1 := BoxKept.of_grown hown' hg; clear hg; rw [show bytesOf ⟨#[110, 117, 108, 108]⟩ = nat8 [110, 117, 108, 108] from rfl, ← nat8_app] at hown1)
  go_ret
  exact ⟨_, rfl, hown1, hB1, hK0.trans hk1⟩

set_option maxRecDepth 100000 in
set_option maxHeartbeats 4000000 in
theorem printed_num (w0 w : World) (base : Nat) (v : Value) (L : List UInt8) (hF : Facts w0) (hw : Below w0.heap.size w0 w) (hbs : base ≤ w.heap.size) (hown : Bytes base w v L) (t ng : Bool) (ds tx : ByteArray) (ex : Int) (A B : Option Addr) (nl c nf d : Nat) (hsd : ds.size ≤ 4294967296) (he0 : -9223372036854775808 ≤ ex) (he1 : ex ≤ 9223372036854775807) (hl : L.length + 64 * (1 + ds.size) ≤ 140737488355328) :
    Calls Tryz.prog 42 #[v, .agg #[.int .i64 2, .bool t, .bool ng, .string ds, .int .i64 ex, .string tx, .slice A nl c, .slice B nf d]] w fun e w' => ∃ v', e = .returned v' ∧ Bytes base w' v' (L ++ decText ng ds ex) ∧ Below base w w' ∧ BoxKept w w' := by
  have hb1 := (Below.refl w.heap.size w).alloc (Nat.le_refl _) (.cells #[.int .i64 2, .bool t, .bool ng, .string ds, .int .i64 ex, .string tx, .slice A nl c, .slice B nf d] 27)
  have hB1' : Below base w (w.alloc (.cells #[.int .i64 2, .bool t, .bool ng, .string ds, .int .i64 ex, .string tx, .slice A nl c, .slice B nf d] 27)) := (Below.refl base w).alloc hbs _
  have hown' := hown.below hb1
  have hK0 := BoxKept.of_below hb1
  have hs1 : base ≤ (w.alloc (.cells #[.int .i64 2, .bool t, .bool ng, .string ds, .int .i64 ex, .string tx, .slice A nl c, .slice B nf d] 27)).heap.size := Nat.le_trans hbs hb1.size
  have hw1 := hw.trans (hb1.mono hw.size)
  have hdl := decText_len ng ds ex
  obtain ⟨r8, hr⟩ : ∃ r8 : ByteArray, (⟨(decText ng ds ex).toArray⟩ : ByteArray) = r8 := ⟨_, rfl⟩
  have hr8 : bytesOf r8 = nat8 (decText ng ds ex) := by rw [← hr]; unfold bytesOf nat8; simp
  have hl2 : L.length + r8.size ≤ 140737488355328 := by rw [← hr, size_mk]; omega
  have cT := text01_any ng ds ex _ hsd he0 he1 (hF.below hw1)
  rw [hr] at cT
  replace hr := Aside0.mk hr
  replace hK0 := Aside0.mk hK0
  go_enter Tryz.func42, Tryz.ntmps42
  go_wp2_with (first
    | ((with_reducible refine gate_builtin (b := .append) (xs := #[.tmp 19, .tmp 22]) rfl ?_); at_builtin; refine print_append_str (w0 := w) base rfl (.tmp 19) (.tmp 22) 55 9 5 rfl Tryz.underlying55 Tryz.underlying9 (by kernel_rfl) _ (nat8 L) r8 rfl rfl hown2 hB2 hs2 (by rw [nat8_len]; exact hl2) ?_; intro v1 w9 hown1 hB1 hg; have hk1 := BoxKept.of_grown hown2 hg; clear hg; rw [hr8, ← nat8_app] at hown1)
    | (go_at_call 62; refine cT.mono ?_; rintro e w2 ⟨rfl, hb2⟩; have hown2 := hown'.below hb2; have hB2 := hB1'.trans (hb2.mono hs1); have hs2 := Nat.le_trans hs1 hb2.size; have hK2 := Aside0.mk (hK0.out.trans (BoxKept.of_below hb2)); clear hown' hs1 hb2))
  go_ret
  exact ⟨_, rfl, hown1, hB1, hK2.out.trans hk1⟩

set_option maxRecDepth 100000 in
set_option maxHeartbeats 4000000 in
theorem printed_text (w0 w : World) (base : Nat) (v : Value) (L : List UInt8) (hF : Facts w0) (hw : Below w0.heap.size w0 w) (hbs : base ≤ w.heap.size) (hown : Bytes base w v L) (t ng : Bool) (ds tx : ByteArray) (ex : Int) (A B : Option Addr) (nl c nf d : Nat) (hv : Lib.validD tx.data.toList = true) (hst : tx.size ≤ 4294967296) (hl : L.length + 64 * (1 + tx.size) ≤ 140737488355328) :
    Calls Tryz.prog 42 #[v, .agg #[.int .i64 3, .bool t, .bool ng, .string ds, .int .i64 ex, .string tx, .slice A nl c, .slice B nf d]] w fun e w' => ∃ v', e = .returned v' ∧ Bytes base w' v' (L ++ 34 :: (tbs tx.data.toList ++ [34])) ∧ Below base w w' ∧ BoxKept w w' := by
  have hb1 := (Below.refl w.heap.size w).alloc (Nat.le_refl _) (.cells #[.int .i64 3, .bool t, .bool ng, .string ds, .int .i64 ex, .string tx, .slice A nl c, .slice B nf d] 27)
  have hB1' : Below base w (w.alloc (.cells #[.int .i64 3, .bool t, .bool ng, .string ds, .int .i64 ex, .string tx, .slice A nl c, .slice B nf d] 27)) := (Below.refl base w).alloc hbs _
  have hown' := hown.below hb1
  have hK0 := BoxKept.of_below hb1
  have hs1 : base ≤ (w.alloc (.cells #[.int .i64 3, .bool t, .bool ng, .string ds, .int .i64 ex, .string tx, .slice A nl c, .slice B nf d] 27)).heap.size := Nat.le_trans hbs hb1.size
  have hw1 := hw.trans (hb1.mono hw.size)
  have hdl := quoted_len2 tx hv
  have hq := quoted_tbs tx hv
  obtain ⟨r8, hr⟩ : ∃ r8 : ByteArray, (⟨(34 :: (tbs tx.data.toList ++ [34])).toArray⟩ : ByteArray) = r8 := ⟨_, rfl⟩
  have hr8 : bytesOf r8 = nat8 (34 :: (tbs tx.data.toList ++ [34])) := by rw [← hr]; unfold bytesOf nat8; simp
  have hl2 : L.length + r8.size ≤ 140737488355328 := by rw [← hr, size_mk]; omega
  have cT := told02_any tx (w.alloc (.cells #[.int .i64 3, .bool t, .bool ng, .string ds, .int .i64 ex, .string tx, .slice A nl c, .slice B nf d] 27)) (by omega)
  rw [hr] at cT
  replace hr := Aside0.mk hr
  replace hK0 := Aside0.mk hK0
  go_enter Tryz.func42, Tryz.ntmps42
  go_wp2_with (first
    | ((with_reducible refine gate_builtin (b := .append) (xs := #[.tmp 26, .tmp 29]) rfl ?_); at_builtin; refine print_append_str (w0 := w) base rfl (.tmp 26) (.tmp 29) 55 9 5 rfl Tryz.underlying55 Tryz.underlying9 (by kernel_rfl) _ (nat8 L) r8 rfl rfl hown2 hB2 hs2 (by rw [nat8_len]; exact hl2) ?_; intro v1 w9 hown1 hB1 hg; have hk1 := BoxKept.of_grown hown2 hg; clear hg; rw [hr8, ← nat8_app] at hown1)
    | (go_at_call 63; refine cT.mono ?_; rintro e w2 ⟨rfl, hb2⟩; have hown2 := hown'.below hb2; have hB2 := hB1'.trans (hb2.mono hs1); have hs2 := Nat.le_trans hs1 hb2.size; have hK2 := Aside0.mk (hK0.out.trans (BoxKept.of_below hb2)); clear hown' hs1 hb2))
  go_ret
  exact ⟨_, rfl, hown1, hB1, hK2.out.trans hk1⟩
end Go.Proofs.YtmfijfcikecglaaGreatDoor
end
section
set_option linter.unusedVariables false
set_option linter.unusedSimpArgs false
namespace Go.Proofs.YtmfijfcikecglaaGreatDoor
open Go Go.RowKit Go.Proofs.YtmfijfcikecglaaGreatDoorW.PrintWords

set_option maxRecDepth 100000 in
set_option maxHeartbeats 8000000 in
theorem printed_list (w0 w : World) (base : Nat) (v : Value) (L : List UInt8) (hF : Facts w0) (hw : Below w0.heap.size w0 w) (hb0 : w0.heap.size ≤ base) (hbs : base ≤ w.heap.size) (hown : Bytes base w v L) (t ng : Bool) (ds tx : ByteArray) (ex : Int) (A B : Option Addr) (nl c nf d : Nat)
    (xs : List JV) (hC : kV.C w0 A nl xs) (hok : ∀ y ∈ xs, PrintedOK y) (hwt : JV.wtL xs ≤ 4294967296) (hin : JV.intsL xs) (hl : L.length + 64 * (1 + JV.wtL xs) ≤ 140737488355328) :
    Calls Tryz.prog 42 #[v, .agg #[.int .i64 4, .bool t, .bool ng, .string ds, .int .i64 ex, .string tx, .slice A nl c, .slice B nf d]] w fun e w' => ∃ v', e = .returned v' ∧ Bytes base w' v' (L ++ 91 :: (jnL xs ++ [93])) ∧ Below base w w' ∧ BoxKept w w' := by
  have hlen := hC.1
  have hll := wtL_len xs
  have hnl : nl ≤ 4294967296 := by omega
  obtain ⟨w1, hw1e⟩ : ∃ w1, w.alloc (.cells #[.int .i64 4, .bool t, .bool ng, .string ds, .int .i64 ex, .string tx, .slice A nl c, .slice B nf d] 27) = w1 := ⟨_, rfl⟩
  have hb1 : Below w.heap.size w w1 := by rw [← hw1e]; exact (Below.refl w.heap.size w).alloc (Nat.le_refl _) _
  have hB1' : Below base w w1 := by rw [← hw1e]; exact (Below.refl base w).alloc hbs _
  have hbx : w1.heap[w.heap.size]? = some (.cells #[.int .i64 4, .bool t, .bool ng, .string ds, .int .i64 ex, .string tx, .slice A nl c, .slice B nf d] 27 (0, 0)) := by rw [← hw1e]; exact heap_alloc_new w _
  have hown' := hown.below hb1
  have hK0 := Aside0.mk (BoxKept.of_below hb1)
  have hs1 : base ≤ w1.heap.size := Nat.le_trans hbs hb1.size
  have hc1 := cellAll hbx
  have hbn := (Below.refl w1.heap.size w1).alloc (Nat.le_refl _) (.cells #[.int .u8 91] 5)
  have hRI := reads_new w1 [91] #[.int .u8 91] rfl (by simp)
  replace hbx := Aside0.mk hbx
  replace hlen := Aside0.mk hlen
  clear hb1 hown
  go_enter Tryz.func42, Tryz.ntmps42
  go_wp2_with ((with_reducible refine gate_builtin (b := .append) (xs := #[.tmp 33, .tmp 34]) rfl ?_); at_builtin; refine print_append_row (w0 := w) base rfl (.tmp 33) (.tmp 34) 55 5 .u8 1 rfl Tryz.underlying55 (by kernel_rfl) (by decide) _ (nat8 L) (nat8 [91]) _ 1 1 rfl rfl (hown'.below hbn) hRI (hB1'.trans (hbn.mono hs1)) (Nat.le_trans hs1 hbn.size) (by rw [nat8_len]; omega) ?_; intro v2 w2 hown2 hB2 hg _; have hk2 := (BoxKept.of_below hbn).trans (BoxKept.of_grown (hown'.below hbn) hg); clear hg; rw [← nat8_app] at hown2)
  clear hown' hbn hRI hc1 hs1
  replace hk2 := Aside0.mk hk2
  go_loopw [0, 5] (fun u i wr => ∃ j : Nat, i = .int .i64 j ∧ j ≤ nl ∧ Bytes base wr u (L ++ 91 :: jnL (xs.take j)) ∧ Below base w wr ∧ Aside0 (BoxKept w1 wr)) (fun _ i _ => nl - (intOf i).toNat)
  case atStart => exact ⟨0, rfl, Nat.zero_le _, hown2, hB2, hk2⟩
  case round =>
    obtain ⟨j, rfl, hj, hown3, hB3, hk3⟩ := hrel
    have hbr := hk3.out _ _ hbx.out
    have hcr := cellAll hbr
    have hjl := jnL_len (xs.take j)
    have hsum : JV.wtL xs = JV.wtL (xs.take j) + JV.wtL (xs.drop j) := by rw [← wtL_app, List.take_append_drop]
    have hlj : (L ++ 91 :: jnL (xs.take j)).length ≤ L.length + 1 + 32 * JV.wtL (xs.take j) := by rw [List.length_append, List.length_cons]; omega
    have hsr := Nat.le_trans hbs hB3.size
    have hw3 := hw.trans (hB3.mono hb0)
    replace hbr := Aside0.mk hbr
    by_cases hlt : j < nl
    · obtain ⟨ad, x, A6, c6, A7, c7, rfl, hx, hcs, l6, g6, l7, g7⟩ := at_V hC j hlt
      have hK := kV_mkK l6 g6 l7 g7
      unfold JV.cells at hcs hK
      obtain ⟨q0, q1, q2, q3, q4, q5, q6, q7, _⟩ := hcs
      have hxm : x ∈ xs := List.mem_of_getElem? hx
      have hwx := wt_memL hxm
      have hix := ints_memL hxm hin
      have hoj := hok x hxm
      have hsn : jnL (xs.take (j + 1)) = if j = 0 then x.put else jnL (xs.take j) ++ 44 :: x.put := by
        have hl0 : (xs.take j).length = j := by rw [List.length_take, hlen.out]; omega
        rw [List.take_add_one, hx, Option.toList_some, jnL_snoc, hl0]
      have hw2 : JV.wtL (xs.take j) + (1 + x.wt) ≤ JV.wtL xs := by
        have h2 : JV.wtL (xs.take (j + 1)) = JV.wtL (xs.take j) + (1 + x.wt) := by
          rw [List.take_add_one, hx, Option.toList_some, wtL_app, JV.wtL, JV.wtL]; omega
        have h3 : JV.wtL xs = JV.wtL (xs.take (j + 1)) + JV.wtL (xs.drop (j + 1)) := by rw [← wtL_app, List.take_append_drop]
        omega
      have hSof : ∀ W, Below w0.heap.size w0 W → W.cell? (ad.add (j * 8)) = some (.int .i64 x.kind) ∧ W.cell? ⟨(ad.add (j * 8)).block, (ad.add (j * 8)).off + (0 + 1), none⟩ = some (.bool x.truth) ∧ W.cell? ⟨(ad.add (j * 8)).block, (ad.add (j * 8)).off + (1 + 1), none⟩ = some (.bool x.neg) ∧ W.cell? ⟨(ad.add (j * 8)).block, (ad.add (j * 8)).off + (2 + 1), none⟩ = some (.string x.digits) ∧ W.cell? ⟨(ad.add (j * 8)).block, (ad.add (j * 8)).off + (3 + 1), none⟩ = some (.int .i64 x.exp) ∧ W.cell? ⟨(ad.add (j * 8)).block, (ad.add (j * 8)).off + (4 + 1), none⟩ = some (.string x.text) ∧ W.cell? ⟨(ad.add (j * 8)).block, (ad.add (j * 8)).off + (5 + 1), none⟩ = some (.slice A6 x.list.length c6) ∧ W.cell? ⟨(ad.add (j * 8)).block, (ad.add (j * 8)).off + (6 + 1), none⟩ = some (.slice A7 x.fields.length c7) := fun W hb => ⟨pw_cell_below hb q0, pw_cell_below hb q1, pw_cell_below hb q2, pw_cell_below hb q3, pw_cell_below hb q4, pw_cell_below hb q5, pw_cell_below hb q6, pw_cell_below hb q7⟩
      have hlt2 : (j : Int) < (nl : Int) := by omega
      replace hsn := Aside0.mk hsn
      replace hx := Aside0.mk hx
      replace hsum := Aside0.mk hsum
      clear hxm q0 q1 q2 q3 q4 q5 q6 q7
      by_cases hj0 : j = 0
      · have hj1 : ¬ (0 : Int) < (j : Int) := by omega
        have hjz : jnL (xs.take j) = [] := by rw [hj0, List.take_zero]; rfl
        rw [hjz] at hown3 hlj
        obtain ⟨p0, p1, p2, p3, p4, p5, p6, p7⟩ := hSof _ hw3
        have hlc : (L ++ [91]).length + 64 * x.wt ≤ 140737488355328 := by rw [List.length_append]; simp only [List.length_cons, List.length_nil]; omega
        replace hjz := Aside0.mk hjz
        replace hj0 := Aside0.mk hj0
        go_wp2_with (go_at_call 42; refine (hoj w0 _ base _ (L ++ [91]) _ hK hF hw3 hb0 hsr hown3 (by omega) hix hlc).mono ?_; rintro e w6 ⟨v6, rfl, hown6, hB6, hk6⟩)
        go_roundw
        case rel =>
          refine ⟨j + 1, by go_num, by omega, ?_, hB3.trans (hB6.mono (Nat.le_refl _)), ⟨hk3.out.trans hk6⟩⟩
          rw [hsn.out, if_pos hj0.out]
          rw [List.append_assoc] at hown6
          exact hown6
        case measure => simp [intOf]; omega
      · have hj1 : (0 : Int) < (j : Int) := by omega
        have hbn := (Below.refl wr.heap.size wr).alloc (Nat.le_refl _) (.cells #[.int .u8 44] 5)
        have hRI := reads_new wr [44] #[.int .u8 44] rfl (by simp)
        have hlc : (L ++ 91 :: jnL (xs.take j) ++ [44]).length + 64 * x.wt ≤ 140737488355328 := by rw [List.length_append]; simp only [List.length_cons, List.length_nil]; omega
        go_wp2_with (first
          | (go_at_call 42; refine (hoj w0 _ base _ (L ++ 91 :: jnL (xs.take j) ++ [44]) _ hK hF hw5 hb0 hs5 hown5 (by omega) hix hlc).mono ?_; rintro e w6 ⟨v6, rfl, hown6, hB6, hk6⟩)
          | ((with_reducible refine gate_builtin (b := .append) (xs := #[.tmp 45, .tmp 46]) rfl ?_); at_builtin; refine print_append_row (w0 := w) base rfl (.tmp 45) (.tmp 46) 55 5 .u8 1 rfl Tryz.underlying55 (by kernel_rfl) (by decide) _ (nat8 (L ++ 91 :: jnL (xs.take j))) (nat8 [44]) _ 1 1 rfl rfl (hown3.below hbn) hRI (hB3.trans (hbn.mono hsr)) (Nat.le_trans hsr hbn.size) (by rw [nat8_len]; omega) ?_; intro v5 w5 hown5 hB5 hg _; have hk5 := (BoxKept.of_below hbn).trans (BoxKept.of_grown (hown3.below hbn) hg); clear hg; rw [← nat8_app] at hown5; have hs5 := Nat.le_trans hbs hB5.size; have hw5 := hw.trans (hB5.mono hb0); have hc5 := cellAll (hk5 _ _ hbr.out); obtain ⟨p0, p1, p2, p3, p4, p5, p6, p7⟩ := hSof _ hw5))
        go_roundw
        case rel =>
          refine ⟨j + 1, by go_num, by omega, ?_, hB5.trans (hB6.mono (Nat.le_refl _)), ⟨hk3.out.trans (hk5.trans hk6)⟩⟩
          rw [hsn.out, if_neg hj0]
          simpa using hown6
        case measure => simp [intOf]; omega
    · obtain rfl : j = nl := by omega
      have hno : ¬ (j : Int) < (j : Int) := by omega
      have hbn := (Below.refl wr.heap.size wr).alloc (Nat.le_refl _) (.cells #[.int .u8 93] 5)
      have hRI := reads_new wr [93] #[.int .u8 93] rfl (by simp)
      have htk : xs.take j = xs := by rw [← hlen.out, List.take_length]
      rw [htk] at hown3 hlj hjl hsum
      go_wp2_with ((with_reducible refine gate_builtin (b := .append) (xs := #[.tmp 55, .tmp 56]) rfl ?_); at_builtin; refine print_append_row (w0 := w) base rfl (.tmp 55) (.tmp 56) 55 5 .u8 1 rfl Tryz.underlying55 (by kernel_rfl) (by decide) _ (nat8 (L ++ 91 :: jnL xs)) (nat8 [93]) _ 1 1 rfl rfl (hown3.below hbn) hRI (hB3.trans (hbn.mono hsr)) (Nat.le_trans hsr hbn.size) (by rw [nat8_len]; omega) ?_; intro v9 w9 hown9 hB9 hg _; have hk9 := (BoxKept.of_below hbn).trans (BoxKept.of_grown (hown3.below hbn) hg); clear hg; rw [← nat8_app] at hown9)
      go_ret
      refine ⟨_, rfl, ?_, hB9, hK0.out.trans (hk3.out.trans hk9)⟩
      rw [List.append_assoc] at hown9
      exact hown9
end Go.Proofs.YtmfijfcikecglaaGreatDoor
end
section
set_option linter.unusedVariables false
set_option linter.unusedSimpArgs false
namespace Go.Proofs.YtmfijfcikecglaaGreatDoor
open Go Go.RowKit Go.Proofs.YtmfijfcikecglaaGreatDoorW.PrintWords

theorem jnF_snoc' (x : JF) (l : List JF) : jnF (l ++ [x]) = if l.length = 0 then quoted x.name ++ (58 :: x.value.put) else jnF l ++ 44 :: (quoted x.name ++ (58 :: x.value.put)) := by
  obtain ⟨nm, v⟩ := x
  exact jnF_snoc nm v l
theorem wtF_one1 (x : JF) : JV.wtF [x] = 1 + x.name.size + x.value.wt := by
  obtain ⟨nm, v⟩ := x
  rw [JV.wtF, JV.wtF]
  rfl

set_option maxRecDepth 100000 in
set_option maxHeartbeats 8000000 in
theorem printed_obj (w0 w : World) (base : Nat) (v : Value) (L : List UInt8) (hF : Facts w0) (hw : Below w0.heap.size w0 w) (hb0 : w0.heap.size ≤ base) (hbs : base ≤ w.heap.size) (hown : Bytes base w v L) (t ng : Bool) (ds tx : ByteArray) (ex : Int) (A B : Option Addr) (nl c nf d : Nat)
    (xs : List JF) (hC : kF.C w0 B nf xs) (hok : ∀ y ∈ xs, Lib.validD y.name.data.toList = true ∧ PrintedOK y.value) (hwt : JV.wtF xs ≤ 4294967296) (hin : JV.intsF xs) (hl : L.length + 64 * (1 + JV.wtF xs) ≤ 140737488355328) :
    Calls Tryz.prog 42 #[v, .agg #[.int .i64 5, .bool t, .bool ng, .string ds, .int .i64 ex, .string tx, .slice A nl c, .slice B nf d]] w fun e w' => ∃ v', e = .returned v' ∧ Bytes base w' v' (L ++ 123 :: (jnF xs ++ [125])) ∧ Below base w w' ∧ BoxKept w w' := by
  have hlen := hC.1
  have hll := wtF_len xs
  have hnl : nf ≤ 4294967296 := by omega
  obtain ⟨w1, hw1e⟩ : ∃ w1, w.alloc (.cells #[.int .i64 5, .bool t, .bool ng, .string ds, .int .i64 ex, .string tx, .slice A nl c, .slice B nf d] 27) = w1 := ⟨_, rfl⟩
  have hb1 : Below w.heap.size w w1 := by rw [← hw1e]; exact (Below.refl w.heap.size w).alloc (Nat.le_refl _) _
  have hB1' : Below base w w1 := by rw [← hw1e]; exact (Below.refl base w).alloc hbs _
  have hbx : w1.heap[w.heap.size]? = some (.cells #[.int .i64 5, .bool t, .bool ng, .string ds, .int .i64 ex, .string tx, .slice A nl c, .slice B nf d] 27 (0, 0)) := by rw [← hw1e]; exact heap_alloc_new w _
  have hown' := hown.below hb1
  have hK0 := Aside0.mk (BoxKept.of_below hb1)
  have hs1 : base ≤ w1.heap.size := Nat.le_trans hbs hb1.size
  have hc1 := cellAll hbx
  have hbn := (Below.refl w1.heap.size w1).alloc (Nat.le_refl _) (.cells #[.int .u8 123] 5)
  have hRI := reads_new w1 [123] #[.int .u8 123] rfl (by simp)
  replace hbx := Aside0.mk hbx
  replace hlen := Aside0.mk hlen
  clear hb1 hown
  go_enter Tryz.func42, Tryz.ntmps42
  go_wp2_with ((with_reducible refine gate_builtin (b := .append) (xs := #[.tmp 60, .tmp 61]) rfl ?_); at_builtin; refine print_append_row (w0 := w) base rfl (.tmp 60) (.tmp 61) 55 5 .u8 1 rfl Tryz.underlying55 (by kernel_rfl) (by decide) _ (nat8 L) (nat8 [123]) _ 1 1 rfl rfl (hown'.below hbn) hRI (hB1'.trans (hbn.mono hs1)) (Nat.le_trans hs1 hbn.size) (by rw [nat8_len]; omega) ?_; intro v2 w2 hown2 hB2 hg _; have hk2 := (BoxKept.of_below hbn).trans (BoxKept.of_grown (hown'.below hbn) hg); clear hg; rw [← nat8_app] at hown2)
  clear hown' hbn hRI hc1 hs1
  replace hk2 := Aside0.mk hk2
  go_loopw [0, 6] (fun u i wr => ∃ j : Nat, i = .int .i64 j ∧ j ≤ nf ∧ Bytes base wr u (L ++ 123 :: jnF (xs.take j)) ∧ Below base w wr ∧ Aside0 (BoxKept w1 wr)) (fun _ i _ => nf - (intOf i).toNat)
  case atStart => exact ⟨0, rfl, Nat.zero_le _, hown2, hB2, hk2⟩
  case round =>
    obtain ⟨j, rfl, hj, hown3, hB3, hk3⟩ := hrel
    have hbr := hk3.out _ _ hbx.out
    have hcr := cellAll hbr
    have hjl := jnF_len (xs.take j)
    have hsum : JV.wtF xs = JV.wtF (xs.take j) + JV.wtF (xs.drop j) := by rw [← wtF_app, List.take_append_drop]
    have hlj : (L ++ 123 :: jnF (xs.take j)).length ≤ L.length + 1 + 32 * JV.wtF (xs.take j) := by rw [List.length_append, List.length_cons]; omega
    have hsr := Nat.le_trans hbs hB3.size
    have hw3 := hw.trans (hB3.mono hb0)
    replace hbr := Aside0.mk hbr
    by_cases hlt : j < nf
    · obtain ⟨ad, x, A6, c6, A7, c7, rfl, hx, hcs, l6, g6, l7, g7⟩ := at_F hC j hlt
      have hK := kV_mkK l6 g6 l7 g7
      unfold JV.cells at hcs hK
      obtain ⟨q0, q1, q2, q3, q4, q5, q6, q7, q8, _⟩ := hcs
      have hxm : x ∈ xs := List.mem_of_getElem? hx
      have hwx := wt_memF hxm
      have hix := ints_memF hxm hin
      obtain ⟨hvx, hoj⟩ := hok x hxm
      have hqt := quoted_tbs x.name hvx
      have hql := quoted_len2 x.name hvx
      rw [← hqt] at hql
      have hsn : jnF (xs.take (j + 1)) = if j = 0 then quoted x.name ++ (58 :: x.value.put) else jnF (xs.take j) ++ 44 :: (quoted x.name ++ (58 :: x.value.put)) := by
        have hl0 : (xs.take j).length = j := by rw [List.length_take, hlen.out]; omega
        rw [List.take_add_one, hx, Option.toList_some, jnF_snoc', hl0]
      have hw2 : JV.wtF (xs.take j) + (1 + x.name.size + x.value.wt) ≤ JV.wtF xs := by
        have h2 : JV.wtF (xs.take (j + 1)) = JV.wtF (xs.take j) + (1 + x.name.size + x.value.wt) := by
          rw [List.take_add_one, hx, Option.toList_some, wtF_app, wtF_one1]
        have h3 : JV.wtF xs = JV.wtF (xs.take (j + 1)) + JV.wtF (xs.drop (j + 1)) := by rw [← wtF_app, List.take_append_drop]
        omega
      have cT := fun W => told02_any x.name W (by omega)
      rw [← hqt] at cT
      obtain ⟨r8, hr⟩ : ∃ r8 : ByteArray, (⟨(quoted x.name).toArray⟩ : ByteArray) = r8 := ⟨_, rfl⟩
      have hr8 : bytesOf r8 = nat8 (quoted x.name) := by rw [← hr]; unfold bytesOf nat8; simp
      have hrl : r8.size = (quoted x.name).length := by rw [← hr, size_mk]
      rw [hr] at cT
      have hSof : ∀ W, Below w0.heap.size w0 W → W.cell? ⟨(ad.add (j * 9)).block, (ad.add (j * 9)).off + (0 + 1), none⟩ = some (.int .i64 x.value.kind) ∧ W.cell? ⟨(ad.add (j * 9)).block, (ad.add (j * 9)).off + (1 + 1), none⟩ = some (.bool x.value.truth) ∧ W.cell? ⟨(ad.add (j * 9)).block, (ad.add (j * 9)).off + (2 + 1), none⟩ = some (.bool x.value.neg) ∧ W.cell? ⟨(ad.add (j * 9)).block, (ad.add (j * 9)).off + (3 + 1), none⟩ = some (.string x.value.digits) ∧ W.cell? ⟨(ad.add (j * 9)).block, (ad.add (j * 9)).off + (4 + 1), none⟩ = some (.int .i64 x.value.exp) ∧ W.cell? ⟨(ad.add (j * 9)).block, (ad.add (j * 9)).off + (5 + 1), none⟩ = some (.string x.value.text) ∧ W.cell? ⟨(ad.add (j * 9)).block, (ad.add (j * 9)).off + (6 + 1), none⟩ = some (.slice A6 x.value.list.length c6) ∧ W.cell? ⟨(ad.add (j * 9)).block, (ad.add (j * 9)).off + (7 + 1), none⟩ = some (.slice A7 x.value.fields.length c7) := fun W hb => ⟨pw_cell_below hb q1, pw_cell_below hb q2, pw_cell_below hb q3, pw_cell_below hb q4, pw_cell_below hb q5, pw_cell_below hb q6, pw_cell_below hb q7, pw_cell_below hb q8⟩
      have hlt2 : (j : Int) < (nf : Int) := by omega
      replace hsn := Aside0.mk hsn
      replace hx := Aside0.mk hx
      replace hsum := Aside0.mk hsum
      replace hqt := Aside0.mk hqt
      replace hr := Aside0.mk hr
      clear hxm q1 q2 q3 q4 q5 q6 q7 q8
      by_cases hj0 : j = 0
      · have hj1 : ¬ (0 : Int) < (j : Int) := by omega
        have hjz : jnF (xs.take j) = [] := by rw [hj0, List.take_zero]; rfl
        rw [hjz] at hown3 hlj
        have pn := pw_cell_below hw3 q0
        have hl7 : (L ++ [123]).length + r8.size ≤ 140737488355328 := by rw [List.length_append]; simp only [List.length_cons, List.length_nil]; omega
        have hl10 : (L ++ [123] ++ quoted x.name).length + 1 ≤ 140737488355328 := by rw [List.length_append, List.length_append]; simp only [List.length_cons, List.length_nil]; omega
        have hlc : (L ++ [123] ++ quoted x.name ++ [58]).length + 64 * x.value.wt ≤ 140737488355328 := by rw [List.length_append, List.length_append, List.length_append]; simp only [List.length_cons, List.length_nil]; omega
        replace hjz := Aside0.mk hjz
        replace hj0 := Aside0.mk hj0
        replace hrl := Aside0.mk hrl
        go_wp2_with (first
          | (go_at_call 42; refine (hoj w0 _ base _ (L ++ [123] ++ quoted x.name ++ [58]) _ hK hF hw11 hb0 hs11 hown11 (by omega) hix hlc).mono ?_; rintro e w6 ⟨v6, rfl, hown6, hB6, hk6⟩)
          | ((with_reducible refine gate_builtin (b := .append) (xs := #[.tmp 84, .tmp 85]) rfl ?_); at_builtin; refine print_append_row (w0 := w) base rfl (.tmp 84) (.tmp 85) 55 5 .u8 1 rfl Tryz.underlying55 (by kernel_rfl) (by decide) _ (nat8 (L ++ [123] ++ quoted x.name)) (nat8 [58]) _ 1 1 rfl rfl (hown10.below hbn10) hRI10 (hB10.trans (hbn10.mono hs10)) (Nat.le_trans hs10 hbn10.size) (by rw [nat8_len]; omega) ?_; intro v11 w11 hown11 hB11 hg _; have hk11 := (BoxKept.of_below hbn10).trans (BoxKept.of_grown (hown10.below hbn10) hg); clear hg; rw [← nat8_app] at hown11; have hs11 := Nat.le_trans hbs hB11.size; have hw11 := hw.trans (hB11.mono hb0); have hc11 := cellAll ((hk7.trans (hk10.trans hk11)) _ _ hbx.out); obtain ⟨p0, p1, p2, p3, p4, p5, p6, p7⟩ := hSof _ hw11)
          | ((with_reducible refine gate_builtin (b := .append) (xs := #[.tmp 75, .tmp 82]) rfl ?_); at_builtin; refine print_append_str (w0 := w) base rfl (.tmp 75) (.tmp 82) 55 9 5 rfl Tryz.underlying55 Tryz.underlying9 (by kernel_rfl) _ (nat8 (L ++ [123])) r8 rfl rfl hown7 hB7 hs7 (by rw [nat8_len]; omega) ?_; intro v10 w10 hown10 hB10 hg; have hk10 := BoxKept.of_grown hown7 hg; clear hg; rw [hr8, ← nat8_app] at hown10; have hown10 : Bytes base w10 v10 (L ++ [123] ++ quoted x.name) := hown10; have hs10 := Nat.le_trans hbs hB10.size; have hbn10 := (Below.refl w10.heap.size w10).alloc (Nat.le_refl _) (.cells #[.int .u8 58] 5); have hRI10 := reads_new w10 [58] #[.int .u8 58] rfl (by simp))
          | (go_at_call 63; refine (cT _).mono ?_; rintro e w7 ⟨rfl, hb7⟩; have hown7 := Bytes.below hown3 hb7; have hB7 := hB3.trans (hb7.mono hsr); have hs7 := Nat.le_trans hsr hb7.size; have hk7 := BoxKept.trans hk3.out (BoxKept.of_below hb7); clear hb7))
        go_roundw
        case rel =>
          refine ⟨j + 1, by go_num, by omega, ?_, hB11.trans (hB6.mono (Nat.le_refl _)), ⟨hk7.trans (hk10.trans (hk11.trans hk6))⟩⟩
          rw [hsn.out, if_pos hj0.out]
          simpa using hown6
        case measure => simp [intOf]; omega
      · have hj1 : (0 : Int) < (j : Int) := by omega
        have hbn := (Below.refl wr.heap.size wr).alloc (Nat.le_refl _) (.cells #[.int .u8 44] 5)
        have hRI := reads_new wr [44] #[.int .u8 44] rfl (by simp)
        have hl7 : (L ++ 123 :: jnF (xs.take j) ++ [44]).length + r8.size ≤ 140737488355328 := by rw [List.length_append]; simp only [List.length_cons, List.length_nil]; omega
        have hl10 : (L ++ 123 :: jnF (xs.take j) ++ [44] ++ quoted x.name).length + 1 ≤ 140737488355328 := by rw [List.length_append, List.length_append]; simp only [List.length_cons, List.length_nil]; omega
        have hlc : (L ++ 123 :: jnF (xs.take j) ++ [44] ++ quoted x.name ++ [58]).length + 64 * x.value.wt ≤ 140737488355328 := by rw [List.length_append, List.length_append, List.length_append]; simp only [List.length_cons, List.length_nil]; omega
        replace hrl := Aside0.mk hrl
        go_wp2_with (first
          | (go_at_call 42; refine (hoj w0 _ base _ (L ++ 123 :: jnF (xs.take j) ++ [44] ++ quoted x.name ++ [58]) _ hK hF hw11 hb0 hs11 hown11 (by omega) hix hlc).mono ?_; rintro e w6 ⟨v6, rfl, hown6, hB6, hk6⟩)
          | ((with_reducible refine gate_builtin (b := .append) (xs := #[.tmp 84, .tmp 85]) rfl ?_); at_builtin; refine print_append_row (w0 := w) base rfl (.tmp 84) (.tmp 85) 55 5 .u8 1 rfl Tryz.underlying55 (by kernel_rfl) (by decide) _ (nat8 (L ++ 123 :: jnF (xs.take j) ++ [44] ++ quoted x.name)) (nat8 [58]) _ 1 1 rfl rfl (hown10.below hbn10) hRI10 (hB10.trans (hbn10.mono hs10)) (Nat.le_trans hs10 hbn10.size) (by rw [nat8_len]; omega) ?_; intro v11 w11 hown11 hB11 hg _; have hk11 := (BoxKept.of_below hbn10).trans (BoxKept.of_grown (hown10.below hbn10) hg); clear hg; rw [← nat8_app] at hown11; have hs11 := Nat.le_trans hbs hB11.size; have hw11 := hw.trans (hB11.mono hb0); have hc11 := cellAll ((hk7.trans (hk10.trans hk11)) _ _ hbx.out); obtain ⟨p0, p1, p2, p3, p4, p5, p6, p7⟩ := hSof _ hw11)
          | ((with_reducible refine gate_builtin (b := .append) (xs := #[.tmp 75, .tmp 82]) rfl ?_); at_builtin; refine print_append_str (w0 := w) base rfl (.tmp 75) (.tmp 82) 55 9 5 rfl Tryz.underlying55 Tryz.underlying9 (by kernel_rfl) _ (nat8 (L ++ 123 :: jnF (xs.take j) ++ [44])) r8 rfl rfl hown7 hB7 hs7 (by rw [nat8_len]; omega) ?_; intro v10 w10 hown10 hB10 hg; have hk10 := BoxKept.of_grown hown7 hg; clear hg; rw [hr8, ← nat8_app] at hown10; have hown10 : Bytes base w10 v10 (L ++ 123 :: jnF (xs.take j) ++ [44] ++ quoted x.name) := hown10; have hs10 := Nat.le_trans hbs hB10.size; have hbn10 := (Below.refl w10.heap.size w10).alloc (Nat.le_refl _) (.cells #[.int .u8 58] 5); have hRI10 := reads_new w10 [58] #[.int .u8 58] rfl (by simp))
          | (go_at_call 63; refine (cT _).mono ?_; rintro e w7 ⟨rfl, hb7⟩; have hown7 := Bytes.below hown5 hb7; have hB7 := hB5.trans (hb7.mono hs5); have hs7 := Nat.le_trans hs5 hb7.size; have hk7 := BoxKept.trans (hk3.out.trans hk5) (BoxKept.of_below hb7); clear hb7)
          | ((with_reducible refine gate_builtin (b := .append) (xs := #[.tmp 72, .tmp 73]) rfl ?_); at_builtin; refine print_append_row (w0 := w) base rfl (.tmp 72) (.tmp 73) 55 5 .u8 1 rfl Tryz.underlying55 (by kernel_rfl) (by decide) _ (nat8 (L ++ 123 :: jnF (xs.take j))) (nat8 [44]) _ 1 1 rfl rfl (hown3.below hbn) hRI (hB3.trans (hbn.mono hsr)) (Nat.le_trans hsr hbn.size) (by rw [nat8_len]; omega) ?_; intro v5 w5 hown5 hB5 hg _; have hk5 := (BoxKept.of_below hbn).trans (BoxKept.of_grown (hown3.below hbn) hg); clear hg; rw [← nat8_app] at hown5; have hs5 := Nat.le_trans hbs hB5.size; have hw5 := hw.trans (hB5.mono hb0); have hc5 := cellAll (hk5 _ _ hbr.out); have pn := pw_cell_below hw5 q0))
        go_roundw
        case rel =>
          refine ⟨j + 1, by go_num, by omega, ?_, hB11.trans (hB6.mono (Nat.le_refl _)), ⟨hk7.trans (hk10.trans (hk11.trans hk6))⟩⟩
          rw [hsn.out, if_neg hj0]
          simpa using hown6
        case measure => simp [intOf]; omega
    · obtain rfl : j = nf := by omega
      have hno : ¬ (j : Int) < (j : Int) := by omega
      have hbn := (Below.refl wr.heap.size wr).alloc (Nat.le_refl _) (.cells #[.int .u8 125] 5)
      have hRI := reads_new wr [125] #[.int .u8 125] rfl (by simp)
      have htk : xs.take j = xs := by rw [← hlen.out, List.take_length]
      rw [htk] at hown3 hlj hjl hsum
      go_wp2_with ((with_reducible refine gate_builtin (b := .append) (xs := #[.tmp 95, .tmp 96]) rfl ?_); at_builtin; refine print_append_row (w0 := w) base rfl (.tmp 95) (.tmp 96) 55 5 .u8 1 rfl Tryz.underlying55 (by kernel_rfl) (by decide) _ (nat8 (L ++ 123 :: jnF xs)) (nat8 [125]) _ 1 1 rfl rfl (hown3.below hbn) hRI (hB3.trans (hbn.mono hsr)) (Nat.le_trans hsr hbn.size) (by rw [nat8_len]; omega) ?_; intro v9 w9 hown9 hB9 hg _; have hk9 := (BoxKept.of_below hbn).trans (BoxKept.of_grown (hown3.below hbn) hg); clear hg; rw [← nat8_app] at hown9)
      go_ret
      refine ⟨_, rfl, ?_, hB9, hK0.out.trans (hk3.out.trans hk9)⟩
      rw [List.append_assoc] at hown9
      exact hown9
theorem printed_step (x : JV) (hx : x.isN) (hl : ∀ y ∈ x.list, PrintedOK y) (hf : ∀ f ∈ x.fields, PrintedOK f.value) : PrintedOK x := by
  intro w0 w base v L cs hK hF hw hb0 hbs hown hwt hin hle
  obtain ⟨A, c, B, d, rfl, hlc, hCl, hfc, hCf⟩ := kV_open hK
  clear hK
  obtain ⟨k, t, ng, ds, ex, tx, l, f⟩ := x
  simp only [JV.list, JV.fields] at *
  rw [JV.wt] at hwt hle
  rw [JV.ints] at hin
  obtain ⟨hik, hie, hil, hif⟩ := hin
  unfold JV.cells
  simp only [JV.kind, JV.truth, JV.neg, JV.digits, JV.exp, JV.text]
  rw [JV.isN] at hx
  rcases hx with ⟨rfl, rfl, rfl, rfl, rfl, rfl, rfl, rfl⟩ | ⟨rfl, rfl, rfl, rfl, rfl, rfl, rfl⟩ | ⟨rfl, rfl, hN, rfl, rfl, rfl⟩ | ⟨rfl, rfl, rfl, rfl, rfl, hv, rfl, rfl⟩ | ⟨rfl, rfl, rfl, rfl, rfl, rfl, hL, rfl⟩ | ⟨rfl, rfl, rfl, rfl, rfl, rfl, rfl, hFs, hr⟩
  · have hp : (JV.mk 0 false false ⟨#[]⟩ 0 ⟨#[]⟩ [] []).put = [110, 117, 108, 108] := by rw [JV.put]; rfl
    rw [hp]
    exact printed_null w base v L hbs hown (by omega) 0 false false ⟨#[]⟩ ⟨#[]⟩ 0 A B _ c _ d (by decide) (by decide) (by decide) (by decide) (by decide)
  · cases t with
    | true =>
      have hp : (JV.mk 1 true false ⟨#[]⟩ 0 ⟨#[]⟩ [] []).put = [116, 114, 117, 101] := by rw [JV.put]; rfl
      rw [hp]
      exact printed_true w base v L hbs hown (by omega) 1 true false ⟨#[]⟩ ⟨#[]⟩ 0 A B _ c _ d
    | false =>
      have hp : (JV.mk 1 false false ⟨#[]⟩ 0 ⟨#[]⟩ [] []).put = [102, 97, 108, 115, 101] := by rw [JV.put]; rfl
      rw [hp]
      exact printed_false w base v L hbs hown (by omega) 1 false false ⟨#[]⟩ ⟨#[]⟩ 0 A B _ c _ d
  · have hp : (JV.mk 2 false ng ds ex ⟨#[]⟩ [] []).put = decText ng ds ex := by rw [JV.put]; rfl
    rw [hp]
    exact printed_num w0 w base v L hF hw hbs hown false ng ds ⟨#[]⟩ ex A B _ c _ d (by omega) hie.1 hie.2 (by omega)
  · have hp : (JV.mk 3 false false ⟨#[]⟩ 0 tx [] []).put = quoted tx := by rw [JV.put]; rfl
    rw [hp, quoted_tbs tx hv]
    exact printed_text w0 w base v L hF hw hbs hown false false ⟨#[]⟩ tx 0 A B _ c _ d hv (by omega) (by omega)
  · rw [put_listJ]
    exact printed_list w0 w base v L hF hw hb0 hbs hown false false ⟨#[]⟩ ⟨#[]⟩ 0 A B _ c _ d l hCl hl (by omega) hil (by omega)
  · rw [put_objJ]
    exact printed_obj w0 w base v L hF hw hb0 hbs hown false false ⟨#[]⟩ ⟨#[]⟩ 0 A B _ c _ d f hCf (fun g hg => ⟨(isNF_iff.1 hFs g hg).1, hf g hg⟩) (by omega) hif (by omega)
theorem printed_all : ∀ (n : Nat) (x : JV), x.wt ≤ n → x.isN → PrintedOK x
  | 0, .mk k t n d e s l f, h, _ => by rw [JV.wt] at h; omega
  | m + 1, .mk k t n d e s l f, h, hx => by
    rw [JV.wt] at h
    have hm : (∀ y ∈ l, y.isN) ∧ (∀ g ∈ f, g.value.isN) := by
      rw [JV.isN] at hx
      rcases hx with ⟨_, _, _, _, _, _, rfl, rfl⟩ | ⟨_, _, _, _, _, rfl, rfl⟩ | ⟨_, _, _, _, rfl, rfl⟩ | ⟨_, _, _, _, _, _, rfl, rfl⟩ | ⟨_, _, _, _, _, _, hL, rfl⟩ | ⟨_, _, _, _, _, _, rfl, hF, _⟩
      · exact ⟨(fun y h => nomatch h), (fun y h => nomatch h)⟩
      · exact ⟨(fun y h => nomatch h), (fun y h => nomatch h)⟩
      · exact ⟨(fun y h => nomatch h), (fun y h => nomatch h)⟩
      · exact ⟨(fun y h => nomatch h), (fun y h => nomatch h)⟩
      · exact ⟨isNL_iff.1 hL, (fun y h => nomatch h)⟩
      · exact ⟨(fun y h => nomatch h), fun g hg => (isNF_iff.1 hF g hg).2⟩
    exact printed_step _ hx (fun y hy => printed_all m y (by have := wt_memL hy; simp only [JV.list] at this; omega) (hm.1 y hy)) (fun g hg => printed_all m _ (by have := wt_memF hg; simp only [JV.fields] at this; omega) (hm.2 g hg))
/-- **voyageref02.printed** of a value in its one form. -/
theorem printed_any (x : JV) (hx : x.isN) : PrintedOK x := printed_all _ x (Nat.le_refl _) hx
end Go.Proofs.YtmfijfcikecglaaGreatDoor
end
section
set_option linter.unusedVariables false
set_option linter.unusedSimpArgs false
namespace Go.Proofs.YtmfijfcikecglaaGreatDoor
open Go Go.RowKit Go.Proofs.YtmfijfcikecglaaGreatDoorW.PrintWords

end Go.Proofs.YtmfijfcikecglaaGreatDoor
end
section
set_option linter.unusedVariables false
set_option linter.unusedSimpArgs false
namespace Go.Proofs.YtmfijfcikecglaaGreatDoor
open Go Go.RowKit Go.Proofs.YtmfijfcikecglaaGreatDoorW.PrintWords

set_option maxRecDepth 100000 in
set_option maxHeartbeats 4000000 in
/-- **voyageref02.Print.** -/
theorem rprint_any (x : JV) (w : World) (cs : List Value) (hK : kV.K w x cs) (hF : Facts w) (hwt : x.wt ≤ 1073741824) (hin : x.ints) :
    Calls Tryz.prog 14 #[.agg cs.toArray] w fun e w' => e = .returned (.string ⟨x.norm.put.toArray⟩) ∧ Below w.heap.size w w' := by
  have cX := fun (W : World) (hb : Below w.heap.size w W) => rnorm_any x W cs (kV.K_below hb hK) (by omega) hin
  have hNy := norm_isN x
  have hny := norm_norm x
  have hiy := norm_ints x
  have hwy := norm_wt x
  obtain ⟨A, c, B, d, rfl, _⟩ := kV_open hK
  unfold JV.cells at cX ⊢
  generalize x.norm = y at *
  have hB0 := Aside0.mk ((Below.refl _ w).alloc (Nat.le_refl _) (.cells #[.int .i64 x.kind, .bool x.truth, .bool x.neg, .string x.digits, .int .i64 x.exp, .string x.text, .slice A x.list.length c, .slice B x.fields.length d] 27))
  have hF0 := Aside0.mk hF
  clear hK hF
  go_enter Tryz.func14, Tryz.ntmps14
  go_wp2_with (first
    | (go_at_call 42; refine (printed_any y hNy _ _ _ (.slice none 0 0) [] _ hK2.out (hF0.out.below hL2.out) (Below.refl _ _) (Nat.le_refl _) (Nat.le_refl _) (own_nil _ _ _ _) (by omega) hiy (by simp only [List.length_nil]; omega)).mono ?_; rintro e w5 ⟨v5, rfl, hown5, hb5, _⟩; rw [List.nil_append] at hown5; have hL5 := Aside0.mk (hL2.out.trans (hb5.mono hL2.out.size)); have hcv := own_string (P := Tryz.prog) (src := 55) (dst := 9) (w := w5) (e' := 5) (e := 5) Tryz.underlying55 Tryz.underlying5 Tryz.underlying9 hown5; clear hown5 hb5)
    | (go_at_call 23; refine (cX _ hB0.out).mono ?_; rintro e w1 ⟨cs1, rfl, hM1, hb1⟩; obtain ⟨vl, vf, rfl, hRl, hRf⟩ := kV_openM hM1; unfold JV.cells at hM1; obtain ⟨Al, cl, rfl⟩ := Kd.R_slice hRl; obtain ⟨Af, cf, rfl⟩ := Kd.R_slice hRf; have hK1 := kV.K_of_M hM1; unfold JV.cells; clear hRl hRf hM1; have hB2 := (Below.refl w1.heap.size w1).alloc (Nat.le_refl _) (.cells #[.int .i64 y.kind, .bool y.truth, .bool y.neg, .string y.digits, .int .i64 y.exp, .string y.text, .slice Al y.list.length cl, .slice Af y.fields.length cf] 27); have hK2 := Aside0.mk (kV.K_below hB2 hK1); have hx2 := Aside0.mk (heap_alloc_new w1 (.cells #[.int .i64 y.kind, .bool y.truth, .bool y.neg, .string y.digits, .int .i64 y.exp, .string y.text, .slice Al y.list.length cl, .slice Af y.fields.length cf] 27)); have hL2 := Aside0.mk (hB0.out.trans ((hb1.trans (hB2.mono hb1.size)).mono hB0.out.size)); clear hK1 hb1 hB2))
  go_ret
  have he := strOf_back y.put
  refine ⟨?_, hL5.out⟩
  show Ending.returned (.string (strOfNums (nat8 y.put))) = _
  rw [show strOfNums (nat8 y.put) = ⟨y.put.toArray⟩ from he]
end Go.Proofs.YtmfijfcikecglaaGreatDoor
end
