/- voyageref02.told: a text in quotes, byte by byte. A valid text in quotes, byte by byte, is the same as letter by letter: plain. voyageref01.Text: dec.Text. voyageref02.printed: bytes, and a value behind them, told. voyageref02.printed at lists. -/
import Derived.Test.YtmfijfcikecglaaGreatDoorH22
import Derived.Deep.RegionLaw
import Derived.Test.YtmfijfcikecglaaGreatDoorH24
import Derived.Test.YtmfijfcikecglaaGreatDoorH25
import Derived.Test.YtmfijfcikecglaaGreatDoorH8
import Derived.Test.YtmfijfcikecglaaGreatDoorH9
section
set_option linter.unusedVariables false
set_option linter.unusedSimpArgs false
namespace Go.Proofs.YtmfijfcikecglaaGreatDoor
open Go Go.RowKit Go.Proofs.YtmfijfcikecglaaGreatDoorW.PrintWords

/-- What is told of one byte. -/
def tb (u : UInt8) : List UInt8 :=
  if u.toNat = 34 ∨ u.toNat = 92 then [92, u] else if u.toNat = 8 then [92, 98] else if u.toNat = 9 then [92, 116] else if u.toNat = 10 then [92, 110] else if u.toNat = 12 then [92, 102] else if u.toNat = 13 then [92, 114]
  else if u.toNat < 32 then [92, 117, 48, 48, hexd (u.toNat / 16), hexd (u.toNat % 16)] else [u]
def tbs : List UInt8 → List UInt8
  | [] => []
  | u :: l => tb u ++ tbs l
theorem tbs_app : ∀ (a b : List UInt8), tbs (a ++ b) = tbs a ++ tbs b
  | [], b => rfl
  | u :: a, b => by rw [List.cons_append, tbs, tbs, tbs_app a b, List.append_assoc]
theorem tb_len (u : UInt8) : (tb u).length ≤ 6 := by
  unfold tb
  repeat' split
  all_goals simp
theorem tbs_len : ∀ (l : List UInt8), (tbs l).length ≤ 6 * l.length
  | [] => by simp [tbs]
  | u :: l => by have := tb_len u; have := tbs_len l; rw [tbs, List.length_append, List.length_cons]; omega
/-- A row that was just laid reads as its bytes. -/
theorem reads_new (W : World) (q : List UInt8) (cs : Array Value) (h : cs = (nums .u8 (nat8 q)).toArray) (hl : q.length ≤ 1000) : ReadsInt (W.alloc (.cells cs 5)) .u8 (some ⟨W.heap.size, 0, none⟩) q.length (nat8 q) := by
  subst h
  have hnew := cellAll (heap_alloc_new W (.cells (nums .u8 (nat8 q)).toArray 5))
  refine ⟨nat8_len q, by omega, fun _ => ⟨_, rfl, fun j hj => ?_⟩⟩
  rw [add_plain, hnew j, List.getElem?_toArray]
  have hj2 : j < (nat8 q).length := by rw [nat8_len]; exact hj
  unfold nums
  rw [List.getElem?_map, List.getElem?_eq_getElem hj2, List.getD_eq_getElem?_getD, List.getElem?_eq_getElem hj2]
  rfl
section
variable {P : Program} {ops : Array Oper} {o : Oper} {a : Act} {Q : Exit → Act → World → Prop} {Kc : Act → World → Prop}
theorem row_append_step {w0 W : World} (base : Nat) (hw : Region.wanted o (yielded ops a.tmps) = true) (s x : Operand) (t e : TypeId) (k : IntKind) (bytes : Nat)
    (ho : o.op = .call { callee := .builtin .append, args := #[s, x], argTypes := #[t, t] })
    (ht : P.underlying t = some (.slice e)) (hinfo : (P.info? e).map (fun i => (i.zero, i.size, i.bytes)) = some (some (.int k 0), 1, bytes)) (hb0 : 0 < bytes)
    (v : Value) (xs ys : List Int) (ad : Addr) (m c : Nat) (hs : a.eval s = v) (hx : a.eval x = .slice (some ad) m c)
    (HO : W.ownsRow base e 1 v xs.length (nums k xs)) (HR : ReadsInt W k (some ad) m ys) (HB : Below base w0 W) (hbase : base ≤ W.heap.size) (hl : (xs.length + m) * bytes ≤ 140737488355328)
    (h : ∀ v1 w1, w1.ownsRow base e 1 v1 (xs ++ ys).length (nums k (xs ++ ys)) → Below base w0 w1 → W.grownBy w1 v.ownBlock → Kc (a.put o.dst v1) w1) :
    if Region.wanted o (yielded ops a.tmps) = true then Oper.wp P o a W Kc Q else Kc (a.put o.dst undef) W := by
  obtain ⟨i0, hi, hzz⟩ := Option.map_eq_some_iff.1 hinfo
  simp only [Prod.mk.injEq] at hzz
  obtain ⟨hz0, hz1, hz2⟩ := hzz
  have hm : ys.length = m := HR.1
  have hlen : xs.length + m ≤ 140737488355328 := Nat.le_trans (Nat.le_mul_of_pos_right _ hb0) hl
  have hcells : ∀ j u, (nums k ys)[j]? = some u → W.cell? (ad.add j) = some u := by
    intro j u hu
    have hj : j < ys.length := by
      rcases Nat.lt_or_ge j ys.length with h | h
      · exact h
      · simp [nums, List.getElem?_eq_none h] at hu
    obtain ⟨ad', h', hc⟩ := HR.2.2 (by omega)
    injection h' with h'
    subst h'
    have := hc j (by omega)
    simp [nums, List.getElem?_eq_getElem hj] at hu
    subst hu
    rw [this]
    simp [List.getD_eq_getElem?_getD, List.getElem?_eq_getElem hj]
  obtain ⟨v1, w1, hr, h2, h3, _, h5⟩ := run_append_own_at (P := P) W base t o.type e i0 (.int k 0) 1 bytes ht hi hz0 hz1 hz2 rfl (by omega) v xs.length (nums k xs) HO ad m c (nums k ys) (by simp [nums, hm]) hcells
    (by intro u hu; simp only [nums, List.mem_map] at hu; obtain ⟨q, _, rfl⟩ := hu; rfl) (by simp only [maxLen]; omega) hl hbase
  rw [if_pos hw]
  unfold Oper.wp execOp
  simp only [ho, resolve, invoke, builtin, Sem.run_bind, Sem.run_pure, Result.andThen_ok, List.map_toArray, List.map_cons, List.map_nil, hs, hx, hr]
  exact h v1 w1 (by simpa [nums, hm] using h2) (HB.grown h3 hbase (own_base HO)) h3
end
theorem hex_at (m : Nat) (hm : m < 16) : ∀ h, ((⟨#[48, 49, 50, 51, 52, 53, 54, 55, 56, 57, 97, 98, 99, 100, 101, 102]⟩ : ByteArray)[m]'h) = hexd m := by
  have key : ∀ k : Fin 16, ∀ h, ((⟨#[48, 49, 50, 51, 52, 53, 54, 55, 56, 57, 97, 98, 99, 100, 101, 102]⟩ : ByteArray)[k.val]'h) = hexd k.val := by decide +kernel
  exact key ⟨m, hm⟩

set_option maxRecDepth 100000 in
set_option maxHeartbeats 8000000 in
theorem told02_any (s : ByteArray) (w : World) (hs : s.size ≤ 1099511627776) :
    Calls Tryz.prog 63 #[.string s] w fun e w' => e = .returned (.string ⟨(34 :: (tbs s.data.toList ++ [34])).toArray⟩) ∧ Below w.heap.size w w' := by
  have hb0 := (Below.refl w.heap.size w).alloc (Nat.le_refl _) (.cells #[.int .u8 34] 5)
  have hown0 : (w.alloc (.cells #[.int .u8 34] 5)).ownsRow w.heap.size 5 1 (.slice (some ⟨w.heap.size, 0, none⟩) 1 1) (nat8 [34]).length (nums .u8 (nat8 [34])) := by
    have hnew := heap_alloc_new w (.cells #[.int .u8 34] 5)
    exact ⟨rfl, .inr ⟨w.heap.size, 1, _, rfl, Nat.le_refl _, hnew, by decide, by decide, rfl, rfl⟩⟩
  replace hb0 := Aside0.mk hb0
  replace hown0 := Aside0.mk hown0
  go_enter Tryz.func63, Tryz.ntmps63
  go_wp2_with fail
  go_loopw [4, 5] (fun v i wr => ∃ (j : Nat) (L : List UInt8), i = .int .i64 j ∧ j ≤ s.size ∧ L.length ≤ 1 + 6 * j ∧ wr.ownsRow w.heap.size 5 1 v (nat8 L).length (nums .u8 (nat8 L)) ∧ Below w.heap.size w wr ∧ Aside0 (34 :: tbs (s.data.toList.take j) = L)) (fun _ i _ => s.size - (intOf i).toNat)
  case atStart => exact ⟨0, [34], rfl, Nat.zero_le _, by simp, hown0.out, hb0.out, ⟨rfl⟩⟩
  case round =>
    obtain ⟨j, L, rfl, hj, hLl, hown, hB, hA⟩ := hrel
    by_cases hlt : j < s.size
    · have hlt2 : (j : Int) < (s.size : Int) := by omega
      obtain ⟨u, hu⟩ : ∃ u, (s[j]'hlt) = u := ⟨_, rfl⟩
      have hb : (s[j]'hlt).toNat = u.toNat := by rw [hu]
      have hstep : Aside0 (34 :: tbs (s.data.toList.take (j + 1)) = 34 :: tbs (s.data.toList.take j) ++ tb u) := ⟨by
        have hjl : j < s.data.toList.length := by rw [Array.length_toList]; exact hlt
        rw [List.take_add_one, List.getElem?_eq_getElem hjl, Option.toList_some, tbs_app]
        have : s.data.toList[j] = u := by rw [← hu]; rfl
        rw [this, tbs, tbs, List.append_nil]; rfl⟩
      have hu256 := u.toNat_lt
      have hnum : ∀ c : Nat, u.toNat = c → c < 256 → u = UInt8.ofNat c := fun c h hc => by apply UInt8.toNat_inj.1; simp [h]; omega
      clear hu
      by_cases h34 : u.toNat = 34
      · have hu0 := hnum 34 h34 (by decide)
        have ht : tb u = [92, 34] := by rw [hu0]; decide
        rw [h34] at hb
        clear hu0 hnum
        have hbn := (Below.refl wr.heap.size wr).alloc (Nat.le_refl _) (.cells #[.int .u8 92, .int .u8 34] 5)
        have hRI := reads_new wr [92, 34] #[.int .u8 92, .int .u8 34] rfl (by simp)
        go_wp2_with ((with_reducible refine gate_builtin (b := .append) (xs := #[.tmp 38, .tmp 40]) rfl ?_); at_builtin; refine print_append_row (w0 := w) w.heap.size rfl (.tmp 38) (.tmp 40) 55 5 .u8 1 rfl Tryz.underlying55 (by kernel_rfl) (by decide) _ (nat8 L) (nat8 [92, 34]) _ 2 2 rfl rfl (pw_own_below hown hbn) hRI (hB.trans (hbn.mono hB.size)) (by have := hB.size; have := hbn.size; omega) (by rw [nat8_len]; omega) ?_; intro v1 w1 hown1 hB1 _ _; rw [← nat8_app] at hown1)
        go_roundw
        case rel => exact ⟨j + 1, L ++ [92, 34], by go_num, by omega, by rw [List.length_append]; simp only [List.length_cons, List.length_nil]; omega, hown1, hB1, ⟨by rw [hstep.out, ← hA.out, ht]⟩⟩
        case measure => simp [intOf]; omega
      by_cases h92 : u.toNat = 92
      · have hu0 := hnum 92 h92 (by decide)
        have ht : tb u = [92, 92] := by rw [hu0]; decide
        rw [h92] at hb
        clear hu0 hnum
        have hbn := (Below.refl wr.heap.size wr).alloc (Nat.le_refl _) (.cells #[.int .u8 92, .int .u8 92] 5)
        have hRI := reads_new wr [92, 92] #[.int .u8 92, .int .u8 92] rfl (by simp)
        go_wp2_with ((with_reducible refine gate_builtin (b := .append) (xs := #[.tmp 38, .tmp 40]) rfl ?_); at_builtin; refine print_append_row (w0 := w) w.heap.size rfl (.tmp 38) (.tmp 40) 55 5 .u8 1 rfl Tryz.underlying55 (by kernel_rfl) (by decide) _ (nat8 L) (nat8 [92, 92]) _ 2 2 rfl rfl (pw_own_below hown hbn) hRI (hB.trans (hbn.mono hB.size)) (by have := hB.size; have := hbn.size; omega) (by rw [nat8_len]; omega) ?_; intro v1 w1 hown1 hB1 _ _; rw [← nat8_app] at hown1)
        go_roundw
        case rel => exact ⟨j + 1, L ++ [92, 92], by go_num, by omega, by rw [List.length_append]; simp only [List.length_cons, List.length_nil]; omega, hown1, hB1, ⟨by rw [hstep.out, ← hA.out, ht]⟩⟩
        case measure => simp [intOf]; omega
      by_cases h8 : u.toNat = 8
      · have hu0 := hnum 8 h8 (by decide)
        have ht : tb u = [92, 98] := by rw [hu0]; decide
        rw [h8] at hb
        clear hu0 hnum
        have hbn := (Below.refl wr.heap.size wr).alloc (Nat.le_refl _) (.cells #[.int .u8 92, .int .u8 98] 5)
        have hRI := reads_new wr [92, 98] #[.int .u8 92, .int .u8 98] rfl (by simp)
        go_wp2_with ((with_reducible refine gate_builtin (b := .append) (xs := #[.tmp 44, .tmp 45]) rfl ?_); at_builtin; refine print_append_row (w0 := w) w.heap.size rfl (.tmp 44) (.tmp 45) 55 5 .u8 1 rfl Tryz.underlying55 (by kernel_rfl) (by decide) _ (nat8 L) (nat8 [92, 98]) _ 2 2 rfl rfl (pw_own_below hown hbn) hRI (hB.trans (hbn.mono hB.size)) (by have := hB.size; have := hbn.size; omega) (by rw [nat8_len]; omega) ?_; intro v1 w1 hown1 hB1 _ _; rw [← nat8_app] at hown1)
        go_roundw
        case rel => exact ⟨j + 1, L ++ [92, 98], by go_num, by omega, by rw [List.length_append]; simp only [List.length_cons, List.length_nil]; omega, hown1, hB1, ⟨by rw [hstep.out, ← hA.out, ht]⟩⟩
        case measure => simp [intOf]; omega
      by_cases h9 : u.toNat = 9
      · have hu0 := hnum 9 h9 (by decide)
        have ht : tb u = [92, 116] := by rw [hu0]; decide
        rw [h9] at hb
        clear hu0 hnum
        have hbn := (Below.refl wr.heap.size wr).alloc (Nat.le_refl _) (.cells #[.int .u8 92, .int .u8 116] 5)
        have hRI := reads_new wr [92, 116] #[.int .u8 92, .int .u8 116] rfl (by simp)
        go_wp2_with ((with_reducible refine gate_builtin (b := .append) (xs := #[.tmp 49, .tmp 50]) rfl ?_); at_builtin; refine print_append_row (w0 := w) w.heap.size rfl (.tmp 49) (.tmp 50) 55 5 .u8 1 rfl Tryz.underlying55 (by kernel_rfl) (by decide) _ (nat8 L) (nat8 [92, 116]) _ 2 2 rfl rfl (pw_own_below hown hbn) hRI (hB.trans (hbn.mono hB.size)) (by have := hB.size; have := hbn.size; omega) (by rw [nat8_len]; omega) ?_; intro v1 w1 hown1 hB1 _ _; rw [← nat8_app] at hown1)
        go_roundw
        case rel => exact ⟨j + 1, L ++ [92, 116], by go_num, by omega, by rw [List.length_append]; simp only [List.length_cons, List.length_nil]; omega, hown1, hB1, ⟨by rw [hstep.out, ← hA.out, ht]⟩⟩
        case measure => simp [intOf]; omega
      by_cases h10 : u.toNat = 10
      · have hu0 := hnum 10 h10 (by decide)
        have ht : tb u = [92, 110] := by rw [hu0]; decide
        rw [h10] at hb
        clear hu0 hnum
        have hbn := (Below.refl wr.heap.size wr).alloc (Nat.le_refl _) (.cells #[.int .u8 92, .int .u8 110] 5)
        have hRI := reads_new wr [92, 110] #[.int .u8 92, .int .u8 110] rfl (by simp)
        go_wp2_with ((with_reducible refine gate_builtin (b := .append) (xs := #[.tmp 54, .tmp 55]) rfl ?_); at_builtin; refine print_append_row (w0 := w) w.heap.size rfl (.tmp 54) (.tmp 55) 55 5 .u8 1 rfl Tryz.underlying55 (by kernel_rfl) (by decide) _ (nat8 L) (nat8 [92, 110]) _ 2 2 rfl rfl (pw_own_below hown hbn) hRI (hB.trans (hbn.mono hB.size)) (by have := hB.size; have := hbn.size; omega) (by rw [nat8_len]; omega) ?_; intro v1 w1 hown1 hB1 _ _; rw [← nat8_app] at hown1)
        go_roundw
        case rel => exact ⟨j + 1, L ++ [92, 110], by go_num, by omega, by rw [List.length_append]; simp only [List.length_cons, List.length_nil]; omega, hown1, hB1, ⟨by rw [hstep.out, ← hA.out, ht]⟩⟩
        case measure => simp [intOf]; omega
      by_cases h12 : u.toNat = 12
      · have hu0 := hnum 12 h12 (by decide)
        have ht : tb u = [92, 102] := by rw [hu0]; decide
        rw [h12] at hb
        clear hu0 hnum
        have hbn := (Below.refl wr.heap.size wr).alloc (Nat.le_refl _) (.cells #[.int .u8 92, .int .u8 102] 5)
        have hRI := reads_new wr [92, 102] #[.int .u8 92, .int .u8 102] rfl (by simp)
        go_wp2_with ((with_reducible refine gate_builtin (b := .append) (xs := #[.tmp 59, .tmp 60]) rfl ?_); at_builtin; refine print_append_row (w0 := w) w.heap.size rfl (.tmp 59) (.tmp 60) 55 5 .u8 1 rfl Tryz.underlying55 (by kernel_rfl) (by decide) _ (nat8 L) (nat8 [92, 102]) _ 2 2 rfl rfl (pw_own_below hown hbn) hRI (hB.trans (hbn.mono hB.size)) (by have := hB.size; have := hbn.size; omega) (by rw [nat8_len]; omega) ?_; intro v1 w1 hown1 hB1 _ _; rw [← nat8_app] at hown1)
        go_roundw
        case rel => exact ⟨j + 1, L ++ [92, 102], by go_num, by omega, by rw [List.length_append]; simp only [List.length_cons, List.length_nil]; omega, hown1, hB1, ⟨by rw [hstep.out, ← hA.out, ht]⟩⟩
        case measure => simp [intOf]; omega
      by_cases h13 : u.toNat = 13
      · have hu0 := hnum 13 h13 (by decide)
        have ht : tb u = [92, 114] := by rw [hu0]; decide
        rw [h13] at hb
        clear hu0 hnum
        have hbn := (Below.refl wr.heap.size wr).alloc (Nat.le_refl _) (.cells #[.int .u8 92, .int .u8 114] 5)
        have hRI := reads_new wr [92, 114] #[.int .u8 92, .int .u8 114] rfl (by simp)
        go_wp2_with ((with_reducible refine gate_builtin (b := .append) (xs := #[.tmp 64, .tmp 65]) rfl ?_); at_builtin; refine print_append_row (w0 := w) w.heap.size rfl (.tmp 64) (.tmp 65) 55 5 .u8 1 rfl Tryz.underlying55 (by kernel_rfl) (by decide) _ (nat8 L) (nat8 [92, 114]) _ 2 2 rfl rfl (pw_own_below hown hbn) hRI (hB.trans (hbn.mono hB.size)) (by have := hB.size; have := hbn.size; omega) (by rw [nat8_len]; omega) ?_; intro v1 w1 hown1 hB1 _ _; rw [← nat8_app] at hown1)
        go_roundw
        case rel => exact ⟨j + 1, L ++ [92, 114], by go_num, by omega, by rw [List.length_append]; simp only [List.length_cons, List.length_nil]; omega, hown1, hB1, ⟨by rw [hstep.out, ← hA.out, ht]⟩⟩
        case measure => simp [intOf]; omega
      have huu : (nat8 [u]) = [(u.toNat : Int)] := rfl
      have e34 : ((u.toNat : Int) == 34) = false := by rw [beq_eq_false_iff_ne]; omega
      have e92 : ((u.toNat : Int) == 92) = false := by rw [beq_eq_false_iff_ne]; omega
      have e8 : ((u.toNat : Int) == 8) = false := by rw [beq_eq_false_iff_ne]; omega
      have e9 : ((u.toNat : Int) == 9) = false := by rw [beq_eq_false_iff_ne]; omega
      have e10 : ((u.toNat : Int) == 10) = false := by rw [beq_eq_false_iff_ne]; omega
      have e12 : ((u.toNat : Int) == 12) = false := by rw [beq_eq_false_iff_ne]; omega
      have e13 : ((u.toNat : Int) == 13) = false := by rw [beq_eq_false_iff_ne]; omega
      by_cases h32 : u.toNat < 32
      · have ht : tb u = [92, 117, 48, 48, hexd (u.toNat / 16), hexd (u.toNat % 16)] := by
          unfold tb
          rw [if_neg (by omega), if_neg h8, if_neg h9, if_neg h10, if_neg h12, if_neg h13, if_pos h32]
        have h322 : (u.toNat : Int) < 32 := by omega
        clear hnum huu
        generalize u.toNat = un at *
        obtain ⟨m1, hm1⟩ : ∃ m1, un / 16 = m1 := ⟨_, rfl⟩
        obtain ⟨m2, hm2⟩ : ∃ m2, un % 16 = m2 := ⟨_, rfl⟩
        have hd1 : IntKind.u8.wrap ((un : Int) / 16) = (m1 : Int) := by rw [IntKind.wrap_u8]; omega
        have hd2 : (un : Int) % 16 = (m2 : Int) := by omega
        have hl1 : (m1 : Int) < 16 := by omega
        have hl2 : (m2 : Int) < 16 := by omega
        have hv1 := hex_at m1 (by omega)
        have hv2 := hex_at m2 (by omega)
        rw [hm1, hm2] at ht
        replace hm1 := Aside0.mk hm1
        replace hm2 := Aside0.mk hm2
        have hd3 : (un : Int).tmod 16 = (m2 : Int) := by rw [Int.tmod_eq_emod_of_nonneg (by omega)]; omega
        go_wp2_with fail
        have hownd := pw_own_below (w1 := wr.drew) hown (below_drew (Below.refl _ _))
        have hBd := below_drew hB
        have hbn := (Below.refl wr.drew.heap.size wr.drew).alloc (Nat.le_refl _) (.cells #[.int .u8 92, .int .u8 117, .int .u8 48, .int .u8 48, .int .u8 ((hexd m1).toNat : Int), .int .u8 ((hexd m2).toNat : Int)] 5)
        have hRI := reads_new wr.drew [92, 117, 48, 48, hexd m1, hexd m2] #[.int .u8 92, .int .u8 117, .int .u8 48, .int .u8 48, .int .u8 ((hexd m1).toNat : Int), .int .u8 ((hexd m2).toNat : Int)] rfl (by simp)
        have hBs := hB.size
        clear hown hB
        go_region_law (refine row_append_step (w0 := w) w.heap.size (by rfl) (.tmp 20) (.tmp 29) 55 5 .u8 1 (by rfl) Tryz.underlying55 (by kernel_rfl) (by decide) _ (nat8 L) (nat8 [92, 117, 48, 48, hexd m1, hexd m2]) _ 6 6 (by rfl) (by rfl) (pw_own_below hownd hbn) hRI (hBd.trans (hbn.mono hBs)) (by simp; omega) (by rw [nat8_len]; omega) ?_; intro v1 w1 hown1 hB1 _; rw [← nat8_app] at hown1)
        all_goals (go_wp2_with fail)
        all_goals go_roundw
        all_goals (try (case measure => simp [intOf]; omega))
        all_goals (exact ⟨j + 1, L ++ [92, 117, 48, 48, hexd m1, hexd m2], by go_num, by omega, by rw [List.length_append]; simp only [List.length_cons, List.length_nil]; omega, hown1, hB1, ⟨by rw [hstep.out, ← hA.out, ht]⟩⟩)
      · have ht : tb u = [u] := by
          unfold tb
          rw [if_neg (by omega), if_neg h8, if_neg h9, if_neg h10, if_neg h12, if_neg h13, if_neg h32]
        have h322 : ¬ (u.toNat : Int) < 32 := by omega
        clear hnum
        have hbn := (Below.refl wr.heap.size wr).alloc (Nat.le_refl _) (.cells #[.int .u8 (u.toNat : Int)] 5)
        have hRI := reads_new wr [u] #[.int .u8 (u.toNat : Int)] rfl (by simp)
        go_wp2_with ((with_reducible refine gate_builtin (b := .append) (xs := #[.tmp 31, .tmp 33]) rfl ?_); at_builtin; refine print_append_row (w0 := w) w.heap.size rfl (.tmp 31) (.tmp 33) 55 5 .u8 1 rfl Tryz.underlying55 (by kernel_rfl) (by decide) _ (nat8 L) (nat8 [u]) _ 1 1 rfl rfl (pw_own_below hown hbn) hRI (hB.trans (hbn.mono hB.size)) (by have := hB.size; have := hbn.size; omega) (by rw [nat8_len]; omega) ?_; intro v1 w1 hown1 hB1 _ _; rw [← nat8_app] at hown1)
        go_roundw
        case rel => exact ⟨j + 1, L ++ [u], by go_num, by omega, by rw [List.length_append]; simp only [List.length_cons, List.length_nil]; omega, hown1, hB1, ⟨by rw [hstep.out, ← hA.out, ht]⟩⟩
        case measure => simp [intOf]; omega
    · obtain rfl : j = s.size := by omega
      have hlt2 : decide ((s.size : Int) < (s.size : Int)) = false := by simp
      have hbn := (Below.refl wr.heap.size wr).alloc (Nat.le_refl _) (.cells #[.int .u8 34] 5)
      have hRI := reads_new wr [34] #[.int .u8 34] rfl (by decide)
      have hend : Aside0 (strOfNums (nat8 (L ++ [34])) = ⟨(34 :: (tbs s.data.toList ++ [34])).toArray⟩) := ⟨by
        have h1 := hA.out
        rw [List.take_of_length_le (by rw [Array.length_toList]; exact Nat.le_refl _)] at h1
        rw [← h1]
        exact strOf_back _⟩
      go_wp2_with ((with_reducible refine gate_builtin (b := .append) (xs := #[.tmp 67, .tmp 68]) rfl ?_); at_builtin; refine print_append_row (w0 := w) w.heap.size rfl (.tmp 67) (.tmp 68) 55 5 .u8 1 rfl Tryz.underlying55 (by kernel_rfl) (by decide) _ (nat8 L) (nat8 [34]) _ 1 1 rfl rfl (pw_own_below hown hbn) hRI (hB.trans (hbn.mono hB.size)) (by have := hB.size; have := hbn.size; omega) (by rw [nat8_len]; omega) ?_; intro v1 w1 hown1 hB1 _ _; rw [← nat8_app] at hown1; have hcv := own_string (P := Tryz.prog) (src := 55) (dst := 9) (w := w1) (e' := 5) (e := 5) (base := w.heap.size) Tryz.underlying55 Tryz.underlying5 Tryz.underlying9 hown1)
      go_ret
      have he2 := hend.out
      refine ⟨?_, hB1⟩
      show Ending.returned (.string (strOfNums (nat8 (L ++ [34])))) = _
      rw [he2]
end Go.Proofs.YtmfijfcikecglaaGreatDoor
end
section
set_option linter.unusedVariables false
set_option linter.unusedSimpArgs false
namespace Go.Proofs.YtmfijfcikecglaaGreatDoor
open Go Go.RowKit

theorem tbs_plain : ∀ (l : List UInt8), (∀ c ∈ l, 128 ≤ c.toNat) → tbs l = l
  | [], _ => rfl
  | u :: l, h => by
    have hu := h u (.head _)
    rw [tbs, tbs_plain l (fun c hc => h c (.tail _ hc))]
    unfold tb
    rw [if_neg (by omega), if_neg (by omega), if_neg (by omega), if_neg (by omega), if_neg (by omega), if_neg (by omega), if_neg (by omega)]
    rfl
theorem quoteRune_low : ∀ r : Fin 128, quoteRune r.val = tbs (Lib.encodeRune ((r.val : Nat) : Int)) := by decide +kernel
theorem enc_128 (r : Int) (h : 128 ≤ r) : ∀ c ∈ Lib.encodeRune r, 128 ≤ c.toNat := by
  intro c hc
  unfold Lib.encodeRune at hc
  obtain ⟨x, hx, rfl⟩ := List.mem_map.1 hc
  have hb := Lib.encodeRuneZ_byte r x hx
  rw [bytes_nat x hb]
  unfold Lib.encodeRuneZ at hx
  split at hx
  · omega
  · split at hx
    · simp at hx; omega
    · split at hx
      · simp at hx; omega
      · split at hx
        · simp at hx; omega
        · simp at hx; omega
theorem quoteRune_tbs (r : Nat) : quoteRune r = tbs (Lib.encodeRune (r : Int)) := by
  by_cases h : r < 128
  · exact quoteRune_low ⟨r, h⟩
  · rw [quoteRune_plain (by omega) (by omega) (by omega), tbs_plain _ (enc_128 _ (by omega))]
theorem quoteFrom_tbs (t : ByteArray) : ∀ (fuel pos : Nat), t.size ≤ pos + fuel → pos ≤ t.size → Lib.validD (t.data.toList.drop pos) = true → quoteFrom t fuel pos = tbs (t.data.toList.drop pos)
  | fuel, pos, hf, hp, hv => by
    by_cases hpos : pos < t.size
    · obtain ⟨fuel, rfl⟩ : ∃ m, fuel = m + 1 := ⟨fuel - 1, by omega⟩
      rw [quoteFrom, if_pos hpos, decode_drop]
      have hlen : (t.data.toList.drop pos).length = t.size - pos := by rw [List.length_drop, Array.length_toList]; rfl
      have hne : t.data.toList.drop pos ≠ [] := by
        intro e
        rw [e] at hlen
        simp at hlen
        omega
      rw [Lib.validD_step _ hne] at hv
      have hgood : ¬ ((Lib.decodeL (t.data.toList.drop pos)).1 = 65533 ∧ (Lib.decodeL (t.data.toList.drop pos)).2 = 1) := by
        intro hb; rw [if_pos hb] at hv; cases hv
      rw [if_neg hgood] at hv
      have henc := Lib.encode_decode _ hne hgood
      have hw : (Lib.decodeL (t.data.toList.drop pos)).2 ≤ t.size - pos ∧ 1 ≤ (Lib.decodeL (t.data.toList.drop pos)).2 := by
        rw [Lib.decodeL_N, ← hlen]
        have h1 := Lib.decodeN_width_le (t.data.toList.drop pos).length ((t.data.toList.drop pos).getD 0 0).toNat ((t.data.toList.drop pos).getD 1 0).toNat ((t.data.toList.drop pos).getD 2 0).toNat ((t.data.toList.drop pos).getD 3 0).toNat (by omega)
        have h2 := decodeN_pos (t.data.toList.drop pos).length ((t.data.toList.drop pos).getD 0 0).toNat ((t.data.toList.drop pos).getD 1 0).toNat ((t.data.toList.drop pos).getD 2 0).toNat ((t.data.toList.drop pos).getD 3 0).toNat
        omega
      rw [quoteRune_tbs, henc, quoteFrom_tbs t fuel (pos + (Lib.decodeL (t.data.toList.drop pos)).2) (by omega) (by omega) (by rw [← List.drop_drop]; exact hv)]
      rw [← tbs_app, ← List.drop_drop, List.take_append_drop]
    · have hd : t.data.toList.drop pos = [] := List.drop_eq_nil_of_le (by rw [Array.length_toList]; show t.size ≤ pos; omega)
      rw [hd]
      cases fuel with
      | zero => rfl
      | succ m => rw [quoteFrom, if_neg hpos]; rfl
theorem quoted_tbs (t : ByteArray) (hv : Lib.validD t.data.toList = true) : quoted t = 34 :: (tbs t.data.toList ++ [34]) := by
  unfold quoted
  rw [quoteFrom_tbs t t.size 0 (by omega) (Nat.zero_le _) (by rw [List.drop_zero]; exact hv), List.drop_zero]
end Go.Proofs.YtmfijfcikecglaaGreatDoor
end
section
set_option linter.unusedVariables false
set_option linter.unusedSimpArgs false
namespace Go.Proofs.YtmfijfcikecglaaGreatDoor
open Go Go.RowKit Go.Proofs.YtmfijfcikecglaaGreatDoorW.PrintWords

set_option maxRecDepth 100000 in
set_option maxHeartbeats 4000000 in
theorem text01_any (neg : Bool) (digits : ByteArray) (exp : Int) (w : World) (hs : digits.size ≤ 4294967296) (he0 : -9223372036854775808 ≤ exp) (he1 : exp ≤ 9223372036854775807) (hF : Facts w) :
    Calls Tryz.prog 62 #[.agg #[.bool neg, .string digits, .int .i64 exp]] w fun e w' => e = .returned (.string ⟨(decText neg digits exp).toArray⟩) ∧ Below w.heap.size w w' := by
  have hB0 := ((Below.refl _ w).alloc (Nat.le_refl _) (.cells #[.bool neg, .string digits, .int .i64 exp] 23))
  have cN := norm01_dec neg digits exp (w.alloc (.cells #[.bool neg, .string digits, .int .i64 exp] 23)) (by omega) he0 he1
  have hDb := decForm_bounds neg digits exp
  unfold decText
  have hDn : (decForm neg digits exp).1 = decNorm neg digits exp := rfl
  rw [hDn] at hDb
  clear hDn
  generalize decNorm neg digits exp = D at cN hDb ⊢
  have hI := fun (W : World) (h : Lib.TabIs Tryz.prog W "internal/strconv.uint64pow10" .u64 Lib.pow10Tab) => Tryz.strconv_Itoa D.exp (by omega) (by omega) W h
  have hIl := Lib.itoa_length_le D.exp (by omega) (by omega)
  have hIs : (⟨(Lib.itoa D.exp).toArray⟩ : ByteArray).size = (Lib.itoa D.exp).length := size_mk _
  have hT : ((⟨(Lib.itoa D.exp).toArray⟩ : ByteArray)).data.toList = Lib.itoa D.exp := rfl
  generalize (⟨(Lib.itoa D.exp).toArray⟩ : ByteArray) = T at hI hIs hT
  rw [← hIs] at hIl
  replace hB0 := Aside0.mk hB0
  have hF0 := Aside0.mk hF
  have hL0 := hDb.1
  clear hF hDb
  by_cases h0 : D.digits.size = 0
  · rw [if_pos h0]
    have hd1 := toList_nil h0
    have hd2 : D.digits.toList.isEmpty = true := by rw [hd1]; rfl
    go_enter Tryz.func62, Tryz.ntmps62
    go_wp2_with (go_at_call 48; refine cN.mono ?_; rintro e w' ⟨rfl, hb⟩; have hL := Aside0.mk (fun o => (hB0.out.trans (hb.mono hB0.out.size)).alloc (hB0.out.trans (hb.mono hB0.out.size)).size o))
    go_ret
    exact ⟨rfl, hL.out _⟩
  · rw [if_neg h0]
    have hd1 := toList_ne h0
    have hd2 : D.digits.toList.isEmpty = false := by simpa using hd1
    have hR : ∀ (R : ByteArray) (L : List UInt8) (w' : World), R.data.toList = L → Below w.heap.size w w' → (Ending.returned (Value.string R) = .returned (.string ⟨L.toArray⟩) ∧ Below w.heap.size w w') := by
      rintro R L w' rfl hb
      exact ⟨by congr, hb⟩
    by_cases hn : D.neg = true
    · rw [if_pos hn]
      by_cases he : D.exp = 0
      · rw [if_pos he]
        have hb1 : (D.exp == 0) = true := by simpa using he
        have hb2 : (D.exp != 0) = false := by simpa using he
        go_enter Tryz.func62, Tryz.ntmps62
        go_wp2_with (go_at_call 48; refine cN.mono ?_; rintro e w' ⟨rfl, hb⟩; have hL := Aside0.mk (fun o => (hB0.out.trans (hb.mono hB0.out.size)).alloc (hB0.out.trans (hb.mono hB0.out.size)).size o))
        go_ret
        exact hR _ _ _ (by simp [ByteArray.data_append]) (hL.out _)
      · rw [if_neg he]
        have hb1 : (D.exp == 0) = false := by simpa using he
        have hb2 : (D.exp != 0) = true := by simpa using he
        go_enter Tryz.func62, Tryz.ntmps62
        go_wp2_with (first
          | (go_at_call 60; refine (hI _ (hF0.out.below (hL.out _)).pow).mono ?_; rintro e w3 ⟨rfl, k, os, rfl⟩)
          | (go_at_call 48; refine cN.mono ?_; rintro e w' ⟨rfl, hb⟩; have hL := Aside0.mk (fun o => (hB0.out.trans (hb.mono hB0.out.size)).alloc (hB0.out.trans (hb.mono hB0.out.size)).size o)))
        go_ret
        exact hR _ _ _ (by simp [ByteArray.data_append, hT]) ((hL.out _).trans (Lib.below_grow _ _ ((hL.out _).size) k os))
    · have hn' : D.neg = false := by simpa using hn
      rw [if_neg hn]
      by_cases he : D.exp = 0
      · rw [if_pos he]
        have hb1 : (D.exp == 0) = true := by simpa using he
        have hb2 : (D.exp != 0) = false := by simpa using he
        go_enter Tryz.func62, Tryz.ntmps62
        go_wp2_with (go_at_call 48; refine cN.mono ?_; rintro e w' ⟨rfl, hb⟩; have hL := Aside0.mk (fun o => (hB0.out.trans (hb.mono hB0.out.size)).alloc (hB0.out.trans (hb.mono hB0.out.size)).size o))
        go_ret
        exact hR _ _ _ (by simp [ByteArray.data_append]) (hL.out _)
      · rw [if_neg he]
        have hb1 : (D.exp == 0) = false := by simpa using he
        have hb2 : (D.exp != 0) = true := by simpa using he
        go_enter Tryz.func62, Tryz.ntmps62
        go_wp2_with (first
          | (go_at_call 60; refine (hI _ (hF0.out.below (hL.out _)).pow).mono ?_; rintro e w3 ⟨rfl, k, os, rfl⟩)
          | (go_at_call 48; refine cN.mono ?_; rintro e w' ⟨rfl, hb⟩; have hL := Aside0.mk (fun o => (hB0.out.trans (hb.mono hB0.out.size)).alloc (hB0.out.trans (hb.mono hB0.out.size)).size o)))
        go_ret
        exact hR _ _ _ (by simp [ByteArray.data_append, hT]) ((hL.out _).trans (Lib.below_grow _ _ ((hL.out _).size) k os))
end Go.Proofs.YtmfijfcikecglaaGreatDoor
end
section
set_option linter.unusedVariables false
set_option linter.unusedSimpArgs false
namespace Go.Proofs.YtmfijfcikecglaaGreatDoor
open Go Go.RowKit Go.Proofs.YtmfijfcikecglaaGreatDoorW.PrintWords

/-! ### plain -/
/-- Elements told, commas between. -/
def jnL : List JV → List UInt8
  | [] => []
  | x :: xs => x.put ++ JV.putL 44 xs
def jnF : List JF → List UInt8
  | [] => []
  | .mk nm v :: xs => quoted nm ++ (58 :: (v.put ++ JV.putF 44 xs))
theorem putJ_snocL (x : JV) : ∀ (l : List JV), JV.putL 44 (l ++ [x]) = JV.putL 44 l ++ 44 :: x.put
  | [] => by rw [List.nil_append, JV.putL, JV.putL, JV.putL]; simp
  | y :: l => by rw [List.cons_append, JV.putL, JV.putL, putJ_snocL x l]; simp
theorem putJ_snocF (nm : ByteArray) (v : JV) : ∀ (l : List JF), JV.putF 44 (l ++ [.mk nm v]) = JV.putF 44 l ++ 44 :: (quoted nm ++ (58 :: v.put))
  | [] => by rw [List.nil_append, JV.putF, JV.putF, JV.putF]; simp
  | .mk n2 v2 :: l => by rw [List.cons_append, JV.putF, JV.putF, putJ_snocF nm v l]; simp
theorem jnL_snoc (x : JV) (l : List JV) : jnL (l ++ [x]) = if l.length = 0 then x.put else jnL l ++ 44 :: x.put := by
  cases l with
  | nil => simp [jnL, JV.putL]
  | cons y l => rw [if_neg (by simp), List.cons_append, jnL, jnL, putJ_snocL]; simp
theorem jnF_snoc (nm : ByteArray) (v : JV) (l : List JF) : jnF (l ++ [.mk nm v]) = if l.length = 0 then quoted nm ++ (58 :: v.put) else jnF l ++ 44 :: (quoted nm ++ (58 :: v.put)) := by
  cases l with
  | nil => simp [jnF, JV.putF]
  | cons y l => obtain ⟨n2, v2⟩ := y; rw [if_neg (by simp), List.cons_append, jnF, jnF, putJ_snocF]; simp
theorem put_listJ (t ng : Bool) (ds tx : ByteArray) (ex : Int) (l : List JV) (f : List JF) : (JV.mk 4 t ng ds ex tx l f).put = 91 :: (jnL l ++ [93]) := by
  rw [JV.put]
  show JV.putL 91 l ++ (if l.length = 0 then [91, 93] else [93]) = _
  cases l with
  | nil => rw [JV.putL]; rfl
  | cons x xs => rw [JV.putL, if_neg (by simp), jnL]; rfl
theorem put_objJ (t ng : Bool) (ds tx : ByteArray) (ex : Int) (l : List JV) (f : List JF) : (JV.mk 5 t ng ds ex tx l f).put = 123 :: (jnF f ++ [125]) := by
  rw [JV.put]
  show JV.putF 123 f ++ (if f.length = 0 then [123, 125] else [125]) = _
  cases f with
  | nil => rw [JV.putF]; rfl
  | cons x xs => obtain ⟨nm, v⟩ := x; rw [JV.putF, if_neg (by simp), jnF]; rfl
theorem jnL_len (l : List JV) : (jnL l).length ≤ 32 * JV.wtL l := by
  cases l with
  | nil => simp [jnL]
  | cons x xs =>
    have h1 := put_len x
    have h2 := putL_len xs 44
    rw [jnL, JV.wtL, List.length_append]
    omega
theorem jnF_len (l : List JF) : (jnF l).length ≤ 32 * JV.wtF l := by
  cases l with
  | nil => simp [jnF]
  | cons x xs =>
    obtain ⟨nm, v⟩ := x
    have h := putF_len (.mk nm v :: xs) 123
    rw [JV.putF, List.length_cons] at h
    rw [jnF]
    omega

theorem quoted_len2 (t : ByteArray) (hv : Lib.validD t.data.toList = true) : (34 :: (tbs t.data.toList ++ [34])).length ≤ 2 + 6 * t.size := by
  have h1 := tbs_len t.data.toList
  have h5 : t.data.toList.length = t.size := Array.length_toList
  simp only [List.length_cons, List.length_append, List.length_nil]
  omega

/-! ### in memory -/
/-- Boxes of values stay. -/
def BoxKept (w w' : World) : Prop := ∀ (b : Nat) (cs : Array Value), w.heap[b]? = some (.cells cs 27 (0, 0)) → w'.heap[b]? = some (.cells cs 27 (0, 0))
theorem BoxKept.trans {a b c : World} (h : BoxKept a b) (k : BoxKept b c) : BoxKept a c := fun i cs hi => k i cs (h i cs hi)
theorem BoxKept.of_below {a b : World} (h : Below a.heap.size a b) : BoxKept a b := fun i cs hi => (h.block i (blk_lt hi)).trans hi
theorem BoxKept.of_grown {a b : World} {base n : Nat} {v : Value} {xs : List Value} (ho : a.ownsRow base 5 1 v n xs) (h : a.grownBy b v.ownBlock) : BoxKept a b := fun i cs hi => by
  refine (h.block i (blk_lt hi) ?_).trans hi
  intro e
  rcases ho.2 with ⟨rfl, _⟩ | ⟨g, cap, cur, rfl, _, hg, _⟩
  · simp [Value.ownBlock] at e
  · have : i = g := by simpa [Value.ownBlock] using e
    subst this
    rw [hg] at hi
    injection hi with hi
    injection hi with _ ht
    exact absurd ht (by decide)
/-- A row of bytes of one's own. -/
def Bytes (base : Nat) (w : World) (v : Value) (L : List UInt8) : Prop := w.ownsRow base 5 1 v (nat8 L).length (nums .u8 (nat8 L))
theorem Bytes.below {base : Nat} {w w' : World} {v : Value} {L : List UInt8} (h : Bytes base w v L) (hb : Below w.heap.size w w') : Bytes base w' v L := pw_own_below h hb
def PrintedOK (x : JV) : Prop := ∀ (w0 w : World) (base : Nat) (v : Value) (L : List UInt8) (cs : List Value), kV.K w0 x cs → Facts w0 → Below w0.heap.size w0 w → w0.heap.size ≤ base → base ≤ w.heap.size → Bytes base w v L → x.wt ≤ 4294967296 → x.ints → L.length + 64 * x.wt ≤ 140737488355328 →
  Calls Tryz.prog 42 #[v, .agg cs.toArray] w fun e w' => ∃ v', e = .returned v' ∧ Bytes base w' v' (L ++ x.put) ∧ Below base w w' ∧ BoxKept w w'

set_option maxRecDepth 100000 in
set_option maxHeartbeats 4000000 in
theorem printed_true (w : World) (base : Nat) (v : Value) (L : List UInt8) (hbs : base ≤ w.heap.size) (hown : Bytes base w v L) (hl : L.length + 64 ≤ 140737488355328) (k : Int) (t ng : Bool) (ds tx : ByteArray) (ex : Int) (A B : Option Addr) (nl c nf d : Nat) :
    Calls Tryz.prog 42 #[v, .agg #[.int .i64 1, .bool true, .bool ng, .string ds, .int .i64 ex, .string tx, .slice A nl c, .slice B nf d]] w fun e w' => ∃ v', e = .returned v' ∧ Bytes base w' v' (L ++ [116, 114, 117, 101]) ∧ Below base w w' ∧ BoxKept w w' := by
  have hb1 := (Below.refl w.heap.size w).alloc (Nat.le_refl _) (.cells #[.int .i64 1, .bool true, .bool ng, .string ds, .int .i64 ex, .string tx, .slice A nl c, .slice B nf d] 27)
  have hB1' : Below base w (w.alloc (.cells #[.int .i64 1, .bool true, .bool ng, .string ds, .int .i64 ex, .string tx, .slice A nl c, .slice B nf d] 27)) := (Below.refl base w).alloc hbs _
  have hown' := hown.below hb1
  have hK0 := BoxKept.of_below hb1
  have hs1 : base ≤ (w.alloc (.cells #[.int .i64 1, .bool true, .bool ng, .string ds, .int .i64 ex, .string tx, .slice A nl c, .slice B nf d] 27)).heap.size := Nat.le_trans hbs hb1.size
  go_enter Tryz.func42, Tryz.ntmps42
  go_wp2_with ((with_reducible refine gate_builtin (b := .append) (xs := #[.tmp 13, .const (.string ⟨#[116, 114, 117, 101]⟩)]) rfl ?_); at_builtin; refine print_append_str (w0 := w) base rfl (.tmp 13) (.const (.string ⟨#[116, 114, 117, 101]⟩)) 55 9 5 rfl Tryz.underlying55 Tryz.underlying9 (by kernel_rfl) _ (nat8 L) ⟨#[116, 114, 117, 101]⟩ rfl rfl hown' hB1' hs1 (by rw [nat8_len]; exact Nat.le_trans (Nat.add_le_add_left (by decide : (⟨#[116, 114, 117, 101]⟩ : ByteArray).size ≤ 64) _) hl) ?_; intro v1 w9 hown1 hB1 hg; have hk1 := BoxKept.of_grown hown' hg; clear hg; rw [show bytesOf ⟨#[116, 114, 117, 101]⟩ = nat8 [116, 114, 117, 101] from rfl, ← nat8_app] at hown1)
  go_ret
  exact ⟨_, rfl, hown1, hB1, hK0.trans hk1⟩

set_option maxRecDepth 100000 in
set_option maxHeartbeats 4000000 in
theorem printed_false (w : World) (base : Nat) (v : Value) (L : List UInt8) (hbs : base ≤ w.heap.size) (hown : Bytes base w v L) (hl : L.length + 64 ≤ 140737488355328) (k : Int) (t ng : Bool) (ds tx : ByteArray) (ex : Int) (A B : Option Addr) (nl c nf d : Nat) :
    Calls Tryz.prog 42 #[v, .agg #[.int .i64 1, .bool false, .bool ng, .string ds, .int .i64 ex, .string tx, .slice A nl c, .slice B nf d]] w fun e w' => ∃ v', e = .returned v' ∧ Bytes base w' v' (L ++ [102, 97, 108, 115, 101]) ∧ Below base w w' ∧ BoxKept w w' := by
  have hb1 := (Below.refl w.heap.size w).alloc (Nat.le_refl _) (.cells #[.int .i64 1, .bool false, .bool ng, .string ds, .int .i64 ex, .string tx, .slice A nl c, .slice B nf d] 27)
  have hB1' : Below base w (w.alloc (.cells #[.int .i64 1, .bool false, .bool ng, .string ds, .int .i64 ex, .string tx, .slice A nl c, .slice B nf d] 27)) := (Below.refl base w).alloc hbs _
  have hown' := hown.below hb1
  have hK0 := BoxKept.of_below hb1
  have hs1 : base ≤ (w.alloc (.cells #[.int .i64 1, .bool false, .bool ng, .string ds, .int .i64 ex, .string tx, .slice A nl c, .slice B nf d] 27)).heap.size := Nat.le_trans hbs hb1.size
  go_enter Tryz.func42, Tryz.ntmps42
  go_wp2_with ((with_reducible refine gate_builtin (b := .append) (xs := #[.tmp 15, .const (.string ⟨#[102, 97, 108, 115, 101]⟩)]) rfl ?_); at_builtin; refine print_append_str (w0 := w) base rfl (.tmp 15) (.const (.string ⟨#[102, 97, 108, 115, 101]⟩)) 55 9 5 rfl Tryz.underlying55 Tryz.underlying9 (by kernel_rfl) _ (nat8 L) ⟨#[102, 97, 108, 115, 101]⟩ rfl rfl hown' hB1' hs1 (by rw [nat8_len]; exact Nat.le_trans (Nat.add_le_add_left (by decide : (⟨#[102, 97, 108, 115, 101]⟩ : ByteArray).size ≤ 64) _) hl) ?_; intro v1 w9 hown1 hB1 hg; have hk1 := BoxKept.of_grown hown' hg; clear hg; rw [show bytesOf ⟨#[102, 97, 108, 115, 101]⟩ = nat8 [102, 97, 108, 115, 101] from rfl, ← nat8_app] at hown1)
  go_ret
  exact ⟨_, rfl, hown1, hB1, hK0.trans hk1⟩

set_option maxRecDepth 100000 in
set_option maxHeartbeats 4000000 in
theorem printed_null (w : World) (base : Nat) (v : Value) (L : List UInt8) (hbs : base ≤ w.heap.size) (hown : Bytes base w v L) (hl : L.length + 64 ≤ 140737488355328) (k : Int) (t ng : Bool) (ds tx : ByteArray) (ex : Int) (A B : Option Addr) (nl c nf d : Nat) (h1 : ¬ k = 1) (h2 : ¬ k = 2) (h3 : ¬ k = 3) (h4 : ¬ k = 4) (h5 : ¬ k = 5) :
    Calls Tryz.prog 42 #[v, .agg #[.int .i64 k, .bool t, .bool ng, .string ds, .int .i64 ex, .string tx, .slice A nl c, .slice B nf d]] w fun e w' => ∃ v', e = .returned v' ∧ Bytes base w' v' (L ++ [110, 117, 108, 108]) ∧ Below base w w' ∧ BoxKept w w' := by
  have hb1 := (Below.refl w.heap.size w).alloc (Nat.le_refl _) (.cells #[.int .i64 k, .bool t, .bool ng, .string ds, .int .i64 ex, .string tx, .slice A nl c, .slice B nf d] 27)
  have hB1' : Below base w (w.alloc (.cells #[.int .i64 k, .bool t, .bool ng, .string ds, .int .i64 ex, .string tx, .slice A nl c, .slice B nf d] 27)) := (Below.refl base w).alloc hbs _
  have hown' := hown.below hb1
  have hK0 := BoxKept.of_below hb1
  have hs1 : base ≤ (w.alloc (.cells #[.int .i64 k, .bool t, .bool ng, .string ds, .int .i64 ex, .string tx, .slice A nl c, .slice B nf d] 27)).heap.size := Nat.le_trans hbs hb1.size
  have b1 : (k == 1) = false := by simpa using h1
  have b2 : (k == 2) = false := by simpa using h2
  have b3 : (k == 3) = false := by simpa using h3
  have b4 : (k == 4) = false := by simpa using h4
  have b5 : (k == 5) = false := by simpa using h5
  go_enter Tryz.func42, Tryz.ntmps42
  go_wp2_with ((with_reducible refine gate_builtin (b := .append) (xs := #[.tmp 98, .const (.string ⟨#[110, 117, 108, 108]⟩)]) rfl ?_); at_builtin; refine print_append_str (w0 := w) base rfl (.tmp 98) (.const (.string ⟨#[110, 117, 108, 108]⟩)) 55 9 5 rfl Tryz.underlying55 Tryz.underlying9 (by kernel_rfl) _ (nat8 L) ⟨#[110, 117, 108, 108]⟩ rfl rfl hown' hB1' hs1 (by rw [nat8_len]; exact Nat.le_trans (Nat.add_le_add_left (by decide : (⟨#[110, 117, 108, 108]⟩ : ByteArray).size ≤ 64) _) hl) ?_; intro v1 w9 hown1 hB1 hg; have hk1 := BoxKept.of_grown hown' hg; clear hg; rw [show bytesOf ⟨#[110, 117, 108, 108]⟩ = nat8 [110, 117, 108, 108] from rfl, ← nat8_app] at hown1)
  go_ret
  exact ⟨_, rfl, hown1, hB1, hK0.trans hk1⟩

set_option maxRecDepth 100000 in
set_option maxHeartbeats 4000000 in
theorem printed_num (w0 w : World) (base : Nat) (v : Value) (L : List UInt8) (hF : Facts w0) (hw : Below w0.heap.size w0 w) (hbs : base ≤ w.heap.size) (hown : Bytes base w v L) (t ng : Bool) (ds tx : ByteArray) (ex : Int) (A B : Option Addr) (nl c nf d : Nat) (hsd : ds.size ≤ 4294967296) (he0 : -9223372036854775808 ≤ ex) (he1 : ex ≤ 9223372036854775807) (hl : L.length + 64 * (1 + ds.size) ≤ 140737488355328) :
    Calls Tryz.prog 42 #[v, .agg #[.int .i64 2, .bool t, .bool ng, .string ds, .int .i64 ex, .string tx, .slice A nl c, .slice B nf d]] w fun e w' => ∃ v', e = .returned v' ∧ Bytes base w' v' (L ++ decText ng ds ex) ∧ Below base w w' ∧ BoxKept w w' := by
  have hb1 := (Below.refl w.heap.size w).alloc (Nat.le_refl _) (.cells #[.int .i64 2, .bool t, .bool ng, .string ds, .int .i64 ex, .string tx, .slice A nl c, .slice B nf d] 27)
  have hB1' : Below base w (w.alloc (.cells #[.int .i64 2, .bool t, .bool ng, .string ds, .int .i64 ex, .string tx, .slice A nl c, .slice B nf d] 27)) := (Below.refl base w).alloc hbs _
  have hown' := hown.below hb1
  have hK0 := BoxKept.of_below hb1
  have hs1 : base ≤ (w.alloc (.cells #[.int .i64 2, .bool t, .bool ng, .string ds, .int .i64 ex, .string tx, .slice A nl c, .slice B nf d] 27)).heap.size := Nat.le_trans hbs hb1.size
  have hw1 := hw.trans (hb1.mono hw.size)
  have hdl := decText_len ng ds ex
  obtain ⟨r8, hr⟩ : ∃ r8 : ByteArray, (⟨(decText ng ds ex).toArray⟩ : ByteArray) = r8 := ⟨_, rfl⟩
  have hr8 : bytesOf r8 = nat8 (decText ng ds ex) := by rw [← hr]; unfold bytesOf nat8; simp
  have hl2 : L.length + r8.size ≤ 140737488355328 := by rw [← hr, size_mk]; omega
  have cT := text01_any ng ds ex _ hsd he0 he1 (hF.below hw1)
  rw [hr] at cT
  replace hr := Aside0.mk hr
  replace hK0 := Aside0.mk hK0
  go_enter Tryz.func42, Tryz.ntmps42
  go_wp2_with (first
    | ((with_reducible refine gate_builtin (b := .append) (xs := #[.tmp 19, .tmp 22]) rfl ?_); at_builtin; refine print_append_str (w0 := w) base rfl (.tmp 19) (.tmp 22) 55 9 5 rfl Tryz.underlying55 Tryz.underlying9 (by kernel_rfl) _ (nat8 L) r8 rfl rfl hown2 hB2 hs2 (by rw [nat8_len]; exact hl2) ?_; intro v1 w9 hown1 hB1 hg; have hk1 := BoxKept.of_grown hown2 hg; clear hg; rw [hr8, ← nat8_app] at hown1)
    | (go_at_call 62; refine cT.mono ?_; rintro e w2 ⟨rfl, hb2⟩; have hown2 := hown'.below hb2; have hB2 := hB1'.trans (hb2.mono hs1); have hs2 := Nat.le_trans hs1 hb2.size; have hK2 := Aside0.mk (hK0.out.trans (BoxKept.of_below hb2)); clear hown' hs1 hb2))
  go_ret
  exact ⟨_, rfl, hown1, hB1, hK2.out.trans hk1⟩

set_option maxRecDepth 100000 in
set_option maxHeartbeats 4000000 in
theorem printed_text (w0 w : World) (base : Nat) (v : Value) (L : List UInt8) (hF : Facts w0) (hw : Below w0.heap.size w0 w) (hbs : base ≤ w.heap.size) (hown : Bytes base w v L) (t ng : Bool) (ds tx : ByteArray) (ex : Int) (A B : Option Addr) (nl c nf d : Nat) (hv : Lib.validD tx.data.toList = true) (hst : tx.size ≤ 4294967296) (hl : L.length + 64 * (1 + tx.size) ≤ 140737488355328) :
    Calls Tryz.prog 42 #[v, .agg #[.int .i64 3, .bool t, .bool ng, .string ds, .int .i64 ex, .string tx, .slice A nl c, .slice B nf d]] w fun e w' => ∃ v', e = .returned v' ∧ Bytes base w' v' (L ++ 34 :: (tbs tx.data.toList ++ [34])) ∧ Below base w w' ∧ BoxKept w w' := by
  have hb1 := (Below.refl w.heap.size w).alloc (Nat.le_refl _) (.cells #[.int .i64 3, .bool t, .bool ng, .string ds, .int .i64 ex, .string tx, .slice A nl c, .slice B nf d] 27)
  have hB1' : Below base w (w.alloc (.cells #[.int .i64 3, .bool t, .bool ng, .string ds, .int .i64 ex, .string tx, .slice A nl c, .slice B nf d] 27)) := (Below.refl base w).alloc hbs _
  have hown' := hown.below hb1
  have hK0 := BoxKept.of_below hb1
  have hs1 : base ≤ (w.alloc (.cells #[.int .i64 3, .bool t, .bool ng, .string ds, .int .i64 ex, .string tx, .slice A nl c, .slice B nf d] 27)).heap.size := Nat.le_trans hbs hb1.size
  have hw1 := hw.trans (hb1.mono hw.size)
  have hdl := quoted_len2 tx hv
  have hq := quoted_tbs tx hv
  obtain ⟨r8, hr⟩ : ∃ r8 : ByteArray, (⟨(34 :: (tbs tx.data.toList ++ [34])).toArray⟩ : ByteArray) = r8 := ⟨_, rfl⟩
  have hr8 : bytesOf r8 = nat8 (34 :: (tbs tx.data.toList ++ [34])) := by rw [← hr]; unfold bytesOf nat8; simp
  have hl2 : L.length + r8.size ≤ 140737488355328 := by rw [← hr, size_mk]; omega
  have cT := told02_any tx (w.alloc (.cells #[.int .i64 3, .bool t, .bool ng, .string ds, .int .i64 ex, .string tx, .slice A nl c, .slice B nf d] 27)) (by omega)
  rw [hr] at cT
  replace hr := Aside0.mk hr
  replace hK0 := Aside0.mk hK0
  go_enter Tryz.func42, Tryz.ntmps42
  go_wp2_with (first
    | ((with_reducible refine gate_builtin (b := .append) (xs := #[.tmp 26, .tmp 29]) rfl ?_); at_builtin; refine print_append_str (w0 := w) base rfl (.tmp 26) (.tmp 29) 55 9 5 rfl Tryz.underlying55 Tryz.underlying9 (by kernel_rfl) _ (nat8 L) r8 rfl rfl hown2 hB2 hs2 (by rw [nat8_len]; exact hl2) ?_; intro v1 w9 hown1 hB1 hg; have hk1 := BoxKept.of_grown hown2 hg; clear hg; rw [hr8, ← nat8_app] at hown1)
    | (go_at_call 63; refine cT.mono ?_; rintro e w2 ⟨rfl, hb2⟩; have hown2 := hown'.below hb2; have hB2 := hB1'.trans (hb2.mono hs1); have hs2 := Nat.le_trans hs1 hb2.size; have hK2 := Aside0.mk (hK0.out.trans (BoxKept.of_below hb2)); clear hown' hs1 hb2))
  go_ret
  exact ⟨_, rfl, hown1, hB1, hK2.out.trans hk1⟩
end Go.Proofs.YtmfijfcikecglaaGreatDoor
end
section
set_option linter.unusedVariables false
set_option linter.unusedSimpArgs false
namespace Go.Proofs.YtmfijfcikecglaaGreatDoor
open Go Go.RowKit Go.Proofs.YtmfijfcikecglaaGreatDoorW.PrintWords

set_option maxRecDepth 100000 in
set_option maxHeartbeats 8000000 in
theorem printed_list (w0 w : World) (base : Nat) (v : Value) (L : List UInt8) (hF : Facts w0) (hw : Below w0.heap.size w0 w) (hb0 : w0.heap.size ≤ base) (hbs : base ≤ w.heap.size) (hown : Bytes base w v L) (t ng : Bool) (ds tx : ByteArray) (ex : Int) (A B : Option Addr) (nl c nf d : Nat)
    (xs : List JV) (hC : kV.C w0 A nl xs) (hok : ∀ y ∈ xs, PrintedOK y) (hwt : JV.wtL xs ≤ 4294967296) (hin : JV.intsL xs) (hl : L.length + 64 * (1 + JV.wtL xs) ≤ 140737488355328) :
    Calls Tryz.prog 42 #[v, .agg #[.int .i64 4, .bool t, .bool ng, .string ds, .int .i64 ex, .string tx, .slice A nl c, .slice B nf d]] w fun e w' => ∃ v', e = .returned v' ∧ Bytes base w' v' (L ++ 91 :: (jnL xs ++ [93])) ∧ Below base w w' ∧ BoxKept w w' := by
  have hlen := hC.1
  have hll := wtL_len xs
  have hnl : nl ≤ 4294967296 := by omega
  obtain ⟨w1, hw1e⟩ : ∃ w1, w.alloc (.cells #[.int .i64 4, .bool t, .bool ng, .string ds, .int .i64 ex, .string tx, .slice A nl c, .slice B nf d] 27) = w1 := ⟨_, rfl⟩
  have hb1 : Below w.heap.size w w1 := by rw [← hw1e]; exact (Below.refl w.heap.size w).alloc (Nat.le_refl _) _
  have hB1' : Below base w w1 := by rw [← hw1e]; exact (Below.refl base w).alloc hbs _
  have hbx : w1.heap[w.heap.size]? = some (.cells #[.int .i64 4, .bool t, .bool ng, .string ds, .int .i64 ex, .string tx, .slice A nl c, .slice B nf d] 27 (0, 0)) := by rw [← hw1e]; exact heap_alloc_new w _
  have hown' := hown.below hb1
  have hK0 := Aside0.mk (BoxKept.of_below hb1)
  have hs1 : base ≤ w1.heap.size := Nat.le_trans hbs hb1.size
  have hc1 := cellAll hbx
  have hbn := (Below.refl w1.heap.size w1).alloc (Nat.le_refl _) (.cells #[.int .u8 91] 5)
  have hRI := reads_new w1 [91] #[.int .u8 91] rfl (by simp)
  replace hbx := Aside0.mk hbx
  replace hlen := Aside0.mk hlen
  clear hb1 hown
  go_enter Tryz.func42, Tryz.ntmps42
  go_wp2_with ((with_reducible refine gate_builtin (b := .append) (xs := #[.tmp 33, .tmp 34]) rfl ?_); at_builtin; refine print_append_row (w0 := w) base rfl (.tmp 33) (.tmp 34) 55 5 .u8 1 rfl Tryz.underlying55 (by kernel_rfl) (by decide) _ (nat8 L) (nat8 [91]) _ 1 1 rfl rfl (hown'.below hbn) hRI (hB1'.trans (hbn.mono hs1)) (Nat.le_trans hs1 hbn.size) (by rw [nat8_len]; omega) ?_; intro v2 w2 hown2 hB2 hg _; have hk2 := (BoxKept.of_below hbn).trans (BoxKept.of_grown (hown'.below hbn) hg); clear hg; rw [← nat8_app] at hown2)
  clear hown' hbn hRI hc1 hs1
  replace hk2 := Aside0.mk hk2
  go_loopw [0, 5] (fun u i wr => ∃ j : Nat, i = .int .i64 j ∧ j ≤ nl ∧ Bytes base wr u (L ++ 91 :: jnL (xs.take j)) ∧ Below base w wr ∧ Aside0 (BoxKept w1 wr)) (fun _ i _ => nl - (intOf i).toNat)
  case atStart => exact ⟨0, rfl, Nat.zero_le _, hown2, hB2, hk2⟩
  case round =>
    obtain ⟨j, rfl, hj, hown3, hB3, hk3⟩ := hrel
    have hbr := hk3.out _ _ hbx.out
    have hcr := cellAll hbr
    have hjl := jnL_len (xs.take j)
    have hsum : JV.wtL xs = JV.wtL (xs.take j) + JV.wtL (xs.drop j) := by rw [← wtL_app, List.take_append_drop]
    have hlj : (L ++ 91 :: jnL (xs.take j)).length ≤ L.length + 1 + 32 * JV.wtL (xs.take j) := by rw [List.length_append, List.length_cons]; omega
    have hsr := Nat.le_trans hbs hB3.size
    have hw3 := hw.trans (hB3.mono hb0)
    replace hbr := Aside0.mk hbr
    by_cases hlt : j < nl
    · obtain ⟨ad, x, A6, c6, A7, c7, rfl, hx, hcs, l6, g6, l7, g7⟩ := at_V hC j hlt
      have hK := kV_mkK l6 g6 l7 g7
      unfold JV.cells at hcs hK
      obtain ⟨q0, q1, q2, q3, q4, q5, q6, q7, _⟩ := hcs
      have hxm : x ∈ xs := List.mem_of_getElem? hx
      have hwx := wt_memL hxm
      have hix := ints_memL hxm hin
      have hoj := hok x hxm
      have hsn : jnL (xs.take (j + 1)) = if j = 0 then x.put else jnL (xs.take j) ++ 44 :: x.put := by
        have hl0 : (xs.take j).length = j := by rw [List.length_take, hlen.out]; omega
        rw [List.take_add_one, hx, Option.toList_some, jnL_snoc, hl0]
      have hw2 : JV.wtL (xs.take j) + (1 + x.wt) ≤ JV.wtL xs := by
        have h2 : JV.wtL (xs.take (j + 1)) = JV.wtL (xs.take j) + (1 + x.wt) := by
          rw [List.take_add_one, hx, Option.toList_some, wtL_app, JV.wtL, JV.wtL]; omega
        have h3 : JV.wtL xs = JV.wtL (xs.take (j + 1)) + JV.wtL (xs.drop (j + 1)) := by rw [← wtL_app, List.take_append_drop]
        omega
      have hSof : ∀ W, Below w0.heap.size w0 W → W.cell? (ad.add (j * 8)) = some (.int .i64 x.kind) ∧ W.cell? ⟨(ad.add (j * 8)).block, (ad.add (j * 8)).off + (0 + 1), none⟩ = some (.bool x.truth) ∧ W.cell? ⟨(ad.add (j * 8)).block, (ad.add (j * 8)).off + (1 + 1), none⟩ = some (.bool x.neg) ∧ W.cell? ⟨(ad.add (j * 8)).block, (ad.add (j * 8)).off + (2 + 1), none⟩ = some (.string x.digits) ∧ W.cell? ⟨(ad.add (j * 8)).block, (ad.add (j * 8)).off + (3 + 1), none⟩ = some (.int .i64 x.exp) ∧ W.cell? ⟨(ad.add (j * 8)).block, (ad.add (j * 8)).off + (4 + 1), none⟩ = some (.string x.text) ∧ W.cell? ⟨(ad.add (j * 8)).block, (ad.add (j * 8)).off + (5 + 1), none⟩ = some (.slice A6 x.list.length c6) ∧ W.cell? ⟨(ad.add (j * 8)).block, (ad.add (j * 8)).off + (6 + 1), none⟩ = some (.slice A7 x.fields.length c7) := fun W hb => ⟨pw_cell_below hb q0, pw_cell_below hb q1, pw_cell_below hb q2, pw_cell_below hb q3, pw_cell_below hb q4, pw_cell_below hb q5, pw_cell_below hb q6, pw_cell_below hb q7⟩
      have hlt2 : (j : Int) < (nl : Int) := by omega
      replace hsn := Aside0.mk hsn
      replace hx := Aside0.mk hx
      replace hsum := Aside0.mk hsum
      clear hxm q0 q1 q2 q3 q4 q5 q6 q7
      by_cases hj0 : j = 0
      · have hj1 : ¬ (0 : Int) < (j : Int) := by omega
        have hjz : jnL (xs.take j) = [] := by rw [hj0, List.take_zero]; rfl
        rw [hjz] at hown3 hlj
        obtain ⟨p0, p1, p2, p3, p4, p5, p6, p7⟩ := hSof _ hw3
        have hlc : (L ++ [91]).length + 64 * x.wt ≤ 140737488355328 := by rw [List.length_append]; simp only [List.length_cons, List.length_nil]; omega
        replace hjz := Aside0.mk hjz
        replace hj0 := Aside0.mk hj0
        go_wp2_with (go_at_call 42; refine (hoj w0 _ base _ (L ++ [91]) _ hK hF hw3 hb0 hsr hown3 (by omega) hix hlc).mono ?_; rintro e w6 ⟨v6, rfl, hown6, hB6, hk6⟩)
        go_roundw
        case rel =>
          refine ⟨j + 1, by go_num, by omega, ?_, hB3.trans (hB6.mono (Nat.le_refl _)), ⟨hk3.out.trans hk6⟩⟩
          rw [hsn.out, if_pos hj0.out]
          rw [List.append_assoc] at hown6
          exact hown6
        case measure => simp [intOf]; omega
      · have hj1 : (0 : Int) < (j : Int) := by omega
        have hbn := (Below.refl wr.heap.size wr).alloc (Nat.le_refl _) (.cells #[.int .u8 44] 5)
        have hRI := reads_new wr [44] #[.int .u8 44] rfl (by simp)
        have hlc : (L ++ 91 :: jnL (xs.take j) ++ [44]).length + 64 * x.wt ≤ 140737488355328 := by rw [List.length_append]; simp only [List.length_cons, List.length_nil]; omega
        go_wp2_with (first
          | (go_at_call 42; refine (hoj w0 _ base _ (L ++ 91 :: jnL (xs.take j) ++ [44]) _ hK hF hw5 hb0 hs5 hown5 (by omega) hix hlc).mono ?_; rintro e w6 ⟨v6, rfl, hown6, hB6, hk6⟩)
          | ((with_reducible refine gate_builtin (b := .append) (xs := #[.tmp 45, .tmp 46]) rfl ?_); at_builtin; refine print_append_row (w0 := w) base rfl (.tmp 45) (.tmp 46) 55 5 .u8 1 rfl Tryz.underlying55 (by kernel_rfl) (by decide) _ (nat8 (L ++ 91 :: jnL (xs.take j))) (nat8 [44]) _ 1 1 rfl rfl (hown3.below hbn) hRI (hB3.trans (hbn.mono hsr)) (Nat.le_trans hsr hbn.size) (by rw [nat8_len]; omega) ?_; intro v5 w5 hown5 hB5 hg _; have hk5 := (BoxKept.of_below hbn).trans (BoxKept.of_grown (hown3.below hbn) hg); clear hg; rw [← nat8_app] at hown5; have hs5 := Nat.le_trans hbs hB5.size; have hw5 := hw.trans (hB5.mono hb0); have hc5 := cellAll (hk5 _ _ hbr.out); obtain ⟨p0, p1, p2, p3, p4, p5, p6, p7⟩ := hSof _ hw5))
        go_roundw
        case rel =>
          refine ⟨j + 1, by go_num, by omega, ?_, hB5.trans (hB6.mono (Nat.le_refl _)), ⟨hk3.out.trans (hk5.trans hk6)⟩⟩
          rw [hsn.out, if_neg hj0]
          simpa using hown6
        case measure => simp [intOf]; omega
    · obtain rfl : j = nl := by omega
      have hno : ¬ (j : Int) < (j : Int) := by omega
      have hbn := (Below.refl wr.heap.size wr).alloc (Nat.le_refl _) (.cells #[.int .u8 93] 5)
      have hRI := reads_new wr [93] #[.int .u8 93] rfl (by simp)
      have htk : xs.take j = xs := by rw [← hlen.out, List.take_length]
      rw [htk] at hown3 hlj hjl hsum
      go_wp2_with ((with_reducible refine gate_builtin (b := .append) (xs := #[.tmp 55, .tmp 56]) rfl ?_); at_builtin; refine print_append_row (w0 := w) base rfl (.tmp 55) (.tmp 56) 55 5 .u8 1 rfl Tryz.underlying55 (by kernel_rfl) (by decide) _ (nat8 (L ++ 91 :: jnL xs)) (nat8 [93]) _ 1 1 rfl rfl (hown3.below hbn) hRI (hB3.trans (hbn.mono hsr)) (Nat.le_trans hsr hbn.size) (by rw [nat8_len]; omega) ?_; intro v9 w9 hown9 hB9 hg _; have hk9 := (BoxKept.of_below hbn).trans (BoxKept.of_grown (hown3.below hbn) hg); clear hg; rw [← nat8_app] at hown9)
      go_ret
      refine ⟨_, rfl, ?_, hB9, hK0.out.trans (hk3.out.trans hk9)⟩
      rw [List.append_assoc] at hown9
      exact hown9
end Go.Proofs.YtmfijfcikecglaaGreatDoor
end
