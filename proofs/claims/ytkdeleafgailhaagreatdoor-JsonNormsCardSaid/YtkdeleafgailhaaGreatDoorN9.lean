/- json.Norm at a list; json.fields; the two together. Contracts of json.Print and its closure put. json.Print$1 (put) at a list and at an object; json.Print. -/
import Derived.Test.YtkdeleafgailhaaGreatDoorN8
import Derived.Laws.EntriesVeiled
import Derived.BigQuiet
section
set_option linter.unusedVariables false
set_option linter.unusedSimpArgs false
namespace Go.Proofs.YtkdeleafgailhaaGreatDoor
open Go Go.RowKit Go.Proofs.YtkdeleafgailhaaGreatDoorW.PrintWords

theorem wt_memL : ∀ {l : List JV} {y : JV}, y ∈ l → y.wt + 1 ≤ JV.wtL l
  | x :: l, y, h => by
    rw [JV.wtL]
    rcases List.mem_cons.1 h with rfl | h
    · omega
    · have := wt_memL h; omega
theorem wt_memF : ∀ {l : List JF} {y : JF}, y ∈ l → y.name.size + y.value.wt + 1 ≤ JV.wtF l
  | .mk nm v :: l, y, h => by
    rw [JV.wtF]
    rcases List.mem_cons.1 h with rfl | h
    · simp only [JF.name, JF.value]; omega
    · have := wt_memF h; omega
theorem wtL_len : ∀ (l : List JV), l.length ≤ JV.wtL l
  | [] => Nat.zero_le _
  | x :: l => by have := wtL_len l; rw [JV.wtL]; simp; omega
theorem wtF_len : ∀ (l : List JF), l.length ≤ JV.wtF l
  | [] => Nat.zero_le _
  | .mk nm v :: l => by have := wtF_len l; rw [JV.wtF]; simp; omega
theorem ints_memL : ∀ {l : List JV} {y : JV}, y ∈ l → JV.intsL l → y.ints
  | x :: l, y, h, hi => by
    rw [JV.intsL] at hi
    rcases List.mem_cons.1 h with rfl | h
    · exact hi.1
    · exact ints_memL h hi.2
theorem ints_memF : ∀ {l : List JF} {y : JF}, y ∈ l → JV.intsF l → y.value.ints
  | .mk nm v :: l, y, h, hi => by
    rw [JV.intsF] at hi
    rcases List.mem_cons.1 h with rfl | h
    · exact hi.1
    · exact ints_memF h hi.2
theorem R_C {e : Nat} {w : World} {base : Nat} {ok : Nat → Prop} {A : Option Addr} {n c : Nat} {xs : List JF} (h : kF.R e w base ok (.slice A n c) xs) : kF.C w A n xs := by
  obtain ⟨A', c', he, _, hC⟩ := Kd.R_reads h
  injection he with h1 h2 h3
  subst h1 h2
  exact hC
theorem boxes' (w : World) (a b : Obj) : ((w.alloc a).alloc b).heap[w.heap.size]? = some a ∧ ((w.alloc a).alloc b).heap[w.heap.size + 1]? = some b := boxes w a b

theorem R_setsV {W W1 : World} {g base : Nat} {v : Value} {out : List JV} {u0 u1 u2 u3 u4 u5 u6 u7 : Value} (h : kV.R 27 W1 W.heap.size (fun _ => True) v out) (hg : g < W.heap.size) (hb : base ≤ W.heap.size) :
    kV.R 27 ((((((((W1.setCell ⟨g, 0, none⟩ u0).setCell ⟨g, 1, none⟩ u1).setCell ⟨g, 2, none⟩ u2).setCell ⟨g, 3, none⟩ u3).setCell ⟨g, 4, none⟩ u4).setCell ⟨g, 5, none⟩ u5).setCell ⟨g, 6, none⟩ u6).setCell ⟨g, 7, none⟩ u7) base (fun _ => True) v out := by
  refine Kd.R_lower (Kd.R_mono (Kd.R_keep (ok := fun k => W.heap.size ≤ k) (g := g) (Kd.R_mono (Kd.R_bound h) (fun k hk => hk.2.1)) ?_ (fun k hk => by omega)) (fun _ _ => trivial)) hb
  exact ((((((((KeepBut.refl _ _ _).set_ _ _).set_ _ _).set_ _ _).set_ _ _).set_ _ _).set_ _ _).set_ _ _).set_ _ _

set_option maxRecDepth 100000 in
set_option maxHeartbeats 4000000 in
theorem norm_list (w : World) (t ng : Bool) (ds tx : ByteArray) (ex : Int) (A B : Option Addr) (nl c nf d : Nat) (hF : Facts w) (xs : List JV) (hC : kV.C w A nl xs) (hnc : nl ≤ c) (hok : ∀ y ∈ xs, NormOK y) (hwt : JV.wtL xs ≤ 4294967296) (hin : JV.intsL xs) :
    Calls Tryz.prog 9 #[.agg #[.int .i64 4, .bool t, .bool ng, .string ds, .int .i64 ex, .string tx, .slice A nl c, .slice B nf d]] w fun e w' => ∃ cs', e = .returned (.agg cs'.toArray) ∧ kV.M w' w.heap.size (fun _ => True) (.mk 4 false false ⟨#[]⟩ 0 ⟨#[]⟩ (JV.normL xs) []) cs' ∧ Below w.heap.size w w' := by
  have hB0 := ((Below.refl _ w).alloc (Nat.le_refl _) (.cells #[.int .i64 4, .bool t, .bool ng, .string ds, .int .i64 ex, .string tx, .slice A nl c, .slice B nf d] 27)).alloc (by simp) (.cells #[.int .i64 0, .bool false, .bool false, .string ⟨#[]⟩, .int .i64 0, .string ⟨#[]⟩, .slice none 0 0, .slice none 0 0] 27)
  have hlen := hC.1
  have hll := wtL_len xs
  have hnl : nl ≤ 4294967296 := by omega
  have hF2 := hF.below hB0
  have hC2 := Kd.C_below hC hB0
  obtain ⟨e0, e1⟩ := boxes' w (.cells #[.int .i64 4, .bool t, .bool ng, .string ds, .int .i64 ex, .string tx, .slice A nl c, .slice B nf d] 27) (.cells #[.int .i64 0, .bool false, .bool false, .string ⟨#[]⟩, .int .i64 0, .string ⟨#[]⟩, .slice none 0 0, .slice none 0 0] 27)
  clear hC hF
  go_enter Tryz.func9, Tryz.ntmps9
  go_wp2_with fail
  generalize hW2 : ((w.alloc (.cells #[.int .i64 4, .bool t, .bool ng, .string ds, .int .i64 ex, .string tx, .slice A nl c, .slice B nf d] 27)).alloc (.cells #[.int .i64 0, .bool false, .bool false, .string ⟨#[]⟩, .int .i64 0, .string ⟨#[]⟩, .slice none 0 0, .slice none 0 0] 27)) = W2 at *
  have hs2 : W2.heap.size = w.heap.size + 2 := by rw [← hW2]; simp
  replace hB0 := Aside0.mk hB0
  replace e0 := Aside0.mk e0
  replace e1 := Aside0.mk e1
  replace hlen := Aside0.mk hlen
  clear hW2
  go_loopw [3, 36] (fun v i wr => ∃ j : Nat, i = .int .i64 j ∧ j ≤ nl ∧ kV.R 27 wr W2.heap.size (fun _ => True) v ((xs.take j).map JV.norm) ∧ Below W2.heap.size W2 wr) (fun _ i _ => nl - (intOf i).toNat)
  case atStart => exact ⟨0, rfl, Nat.zero_le _, R_nilV _ _ _, Below.refl _ _⟩
  case round =>
    obtain ⟨j, rfl, hj, hR, hB⟩ := hrel
    obtain ⟨VA, vc, hv⟩ := Kd.R_slice hR
    rw [show ((xs.take j).map JV.norm).length = j by rw [List.length_map, List.length_take, hlen.out]; omega] at hv
    subst hv
    by_cases hlt : j < nl
    · obtain ⟨ad, x, A6, c6, A7, c7, rfl, hx, hcs, l6, g6, l7, g7⟩ := at_V (Kd.C_below hC2 hB) j hlt
      have hK := kV_mkK l6 g6 l7 g7
      unfold JV.cells at hcs hK
      obtain ⟨q0, q1, q2, q3, q4, q5, q6, q7, _⟩ := hcs
      replace hR := Aside0.mk hR
      replace hx := Aside0.mk hx
      have hxm : x ∈ xs := List.mem_of_getElem? hx.out
      have hnx := hok x hxm
      have hwx := wt_memL hxm
      have hB3 := (Below.refl _ wr).alloc (Nat.le_refl _) (.cells #[.int .i64 x.kind, .bool x.truth, .bool x.neg, .string x.digits, .int .i64 x.exp, .string x.text, .slice A6 x.list.length c6, .slice A7 x.fields.length c7] 27)
      have cN := hnx _ _ (kV.K_below hB3 hK) ((hF2.below hB).below hB3) (by omega) (ints_memL hxm hin)
      clear hnx hK hxm
      replace hB3 := Aside0.mk hB3
      go_wp2_with (first
        | (go_at_call 9; refine cN.mono ?_; rintro e w' ⟨cs', rfl, hM, hb⟩; obtain ⟨vl, vf, rfl, hRl, hRf⟩ := kV_openM hM; unfold JV.cells at hM; obtain ⟨Al, cl, rfl⟩ := Kd.R_slice hRl; obtain ⟨Af, cf, rfl⟩ := Kd.R_slice hRf; unfold JV.cells; clear hRl hRf; have hR1 := Kd.R_below hR.out hB3.out; obtain ⟨inner, hown⟩ := Kd.R_own hR1; have hM1 := kV.M_lower (base' := W2.heap.size) (by have := hB.size; simp; omega) (Kd.M_new hM hown); have hR2 := Kd.R_below hR1 hb; have hB4 := (hB.trans (hB3.out.mono hB.size)).trans (hb.mono (by have := hB.size; simp; omega)); have hBs := hB4.size; clear hown hR1 hM; replace hM1 := Aside0.mk hM1; replace hR2 := Aside0.mk hR2)
        | ((with_reducible refine gate_builtin (b := .append) (xs := #[.tmp 40, .tmp 43]) rfl ?_); at_builtin; refine Kd.R_append kV (w0 := W2) W2.heap.size rfl (.tmp 40) (.tmp 43) 24 27 zV 112 rfl Tryz.underlying24 infoV rfl (by decide) (by omega) (.slice VA j vc) ((xs.take j).map JV.norm) x.norm [.int .i64 x.norm.kind, .bool x.norm.truth, .bool x.norm.neg, .string x.norm.digits, .int .i64 x.norm.exp, .string x.norm.text, .slice Al x.norm.list.length cl, .slice Af x.norm.fields.length cf] (fun _ => True) _ rfl rfl hM1.out (fun _ hk => hk) (fun _ _ => trivial) hR2.out hB4 hBs ?aL ?_; (case aL => rw [List.length_map, List.length_take, hlen.out]; have := hlen.out; have : min j nl ≤ nl := Nat.min_le_right _ _; omega); intro v1 w1 hR3 hB5 hg5 hat; clear hg5 hat hM1 hR2 hR))
      go_roundw
      case rel =>
        refine ⟨j + 1, by go_num, by omega, ?_, hB5⟩
        have hx2 := hx.out
        rw [List.take_add_one, hx2, Option.toList_some, List.map_append]
        exact hR3
      case measure => simp [intOf]; omega
    · obtain rfl : j = nl := by omega
      have hb0 := (hB.block w.heap.size (by omega)).trans e0.out
      have hb1 := (hB.block (w.heap.size + 1) (by omega)).trans e1.out
      have hc0 := cellAll hb0
      have hf0 := frozenAll hb0
      have hc1 := cellAll hb1
      have hf1 := frozenAll hb1
      clear hb0 hb1
      replace hR := Aside0.mk hR
      go_wp2_with fail
      refine bodyPost_ret (v := .agg #[.int .i64 4, .bool false, .bool false, .string ⟨#[]⟩, .int .i64 0, .string ⟨#[]⟩, .slice VA j vc, .slice none 0 0]) (by simp [results, Tryz.results9, go_sem, hc1]) rfl ⟨[.int .i64 4, .bool false, .bool false, .string ⟨#[]⟩, .int .i64 0, .string ⟨#[]⟩, .slice VA j vc, .slice none 0 0], rfl, ?_, ?_⟩
      · refine kV_mkM (x := .mk 4 false false ⟨#[]⟩ 0 ⟨#[]⟩ (JV.normL xs) []) (R_setsV (W := W2) (by rw [normL_map]; have := hR.out; rw [← hlen.out, List.take_length] at this; rw [← hlen.out]; exact this) (by omega) (by omega)) (R_nilF _ _ _)
      · iterate 8 refine below_set ?_ (by omega)
        exact hB0.out.trans (hB.mono (by omega))

set_option maxRecDepth 100000 in
set_option maxHeartbeats 4000000 in
theorem norm_one (w : World) (t ng : Bool) (ds tx : ByteArray) (ex : Int) (A B : Option Addr) (nl c nf d : Nat) :
    Calls Tryz.prog 9 #[.agg #[.int .i64 1, .bool t, .bool ng, .string ds, .int .i64 ex, .string tx, .slice A nl c, .slice B nf d]] w fun e w' => ∃ cs', e = .returned (.agg cs'.toArray) ∧ kV.M w' w.heap.size (fun _ => True) (.mk 1 t false ⟨#[]⟩ 0 ⟨#[]⟩ [] []) cs' ∧ Below w.heap.size w w' := by
  go_enter Tryz.func9, Tryz.ntmps9
  go_wp2_with fail
  refine bodyPost_ret (v := .agg #[.int .i64 1, .bool t, .bool false, .string ⟨#[]⟩, .int .i64 0, .string ⟨#[]⟩, .slice none 0 0, .slice none 0 0]) (by simp [results, Tryz.results9, go_sem]) rfl ⟨_, rfl, kV_mkM (x := .mk 1 t false ⟨#[]⟩ 0 ⟨#[]⟩ [] []) (R_nilV _ _ _) (R_nilF _ _ _), ((Below.refl _ w).alloc (Nat.le_refl _) _).alloc (by simp) _⟩

set_option maxRecDepth 100000 in
set_option maxHeartbeats 4000000 in
theorem norm_rest (w : World) (k : Int) (t ng : Bool) (ds tx : ByteArray) (ex : Int) (A B : Option Addr) (nl c nf d : Nat) (h1 : ¬ k = 1) (h2 : ¬ k = 2) (h3 : ¬ k = 3) (h4 : ¬ k = 4) (h5 : ¬ k = 5) :
    Calls Tryz.prog 9 #[.agg #[.int .i64 k, .bool t, .bool ng, .string ds, .int .i64 ex, .string tx, .slice A nl c, .slice B nf d]] w fun e w' => ∃ cs', e = .returned (.agg cs'.toArray) ∧ kV.M w' w.heap.size (fun _ => True) JV.nul cs' ∧ Below w.heap.size w w' := by
  have b1 : (k == 1) = false := by simpa using h1
  have b2 : (k == 2) = false := by simpa using h2
  have b3 : (k == 3) = false := by simpa using h3
  have b4 : (k == 4) = false := by simpa using h4
  have b5 : (k == 5) = false := by simpa using h5
  go_enter Tryz.func9, Tryz.ntmps9
  go_wp2_with fail
  refine bodyPost_ret (v := .agg #[.int .i64 0, .bool false, .bool false, .string ⟨#[]⟩, .int .i64 0, .string ⟨#[]⟩, .slice none 0 0, .slice none 0 0]) (by simp [results, Tryz.results9, go_sem]) rfl ⟨_, rfl, kV_mkM (x := JV.nul) (R_nilV _ _ _) (R_nilF _ _ _), ((Below.refl _ w).alloc (Nat.le_refl _) _).alloc (by simp) _⟩

theorem insert_new (base p : Nat) (v : Value) (xs : List JF) (nm : ByteArray) (y : JV) (cells : List Value) (w : World) (hR : kF.R 69 w base (fun _ => True) v xs) (hM : kV.M w base (fun k => True ∧ some k ≠ v.ownBlock) y cells) (hp : p ≤ xs.length) (hbase : base ≤ w.heap.size) (hn : xs.length ≤ 4294967296) :
    Calls Tryz.prog 72 #[v, .int .i64 p, .slice (some ⟨w.heap.size, 0, none⟩) 1 1] (w.alloc (.cells (.string nm :: cells).toArray 69)) fun e w' => ∃ v1, e = .returned v1 ∧ kF.R 69 w' base (fun _ => True) v1 (xs.take p ++ .mk nm y :: xs.drop p) ∧ Below base w w' := by
  have hb := (Below.refl _ w).alloc (Nat.le_refl _) (.cells (.string nm :: cells).toArray 69)
  obtain ⟨inner, hown⟩ := Kd.R_own hR
  have hM5 : kF.M (w.alloc (.cells (.string nm :: cells).toArray 69)) base (fun k => True ∧ some k ≠ v.ownBlock) (.mk nm y) (.string nm :: cells) := ⟨[.string nm], cells, rfl, rfl, Kd.M_below hM hb⟩
  refine (insert_any base p (fun _ => True) _ v xs (.mk nm y) (.string nm :: cells) w.heap.size _ (Kd.R_below hR hb) hM5 (fun _ hk => hk) (fun _ _ => trivial) (heap_alloc_new _ _) (fun h => by have := own_lt hown _ h; omega) hp (by simp; omega) hn).mono ?_
  rintro e w' ⟨v1, rfl, hR1, hg, hat⟩
  exact ⟨v1, rfl, hR1, pw_below_grown (hb.mono hbase) _ (by simp; omega) hg (fun k hk => own_base hown k hk)⟩

set_option maxRecDepth 100000 in
set_option maxHeartbeats 4000000 in
theorem fields_any (w : World) (A : Option Addr) (n c : Nat) (fs : List JF) (hnc : n ≤ c) (hC : kF.C w A n fs) (hF : Facts w) (hok : ∀ f ∈ fs, NormOK f.value) (hwt : JV.wtF fs ≤ 4294967296) (hin : JV.intsF fs) :
    Calls Tryz.prog 35 #[.slice A n c] w fun e w' => ∃ v, e = .returned v ∧ kF.R 69 w' w.heap.size (fun _ => True) v (JV.normF fs []) ∧ Below w.heap.size w w' := by
  have hlen := hC.1
  have hll := wtF_len fs
  have hnl : n ≤ 4294967296 := by omega
  replace hlen := Aside0.mk hlen
  go_enter Tryz.func35, Tryz.ntmps35
  go_wp2_with fail
  go_loopw [3, 11] (fun v i wr => ∃ j : Nat, i = .int .i64 j ∧ j ≤ n ∧ kF.R 69 wr w.heap.size (fun _ => True) v (JV.normF (fs.take j) []) ∧ Below w.heap.size w wr) (fun _ i _ => n - (intOf i).toNat)
  case atStart => exact ⟨0, rfl, Nat.zero_le _, R_nilF _ _ _, Below.refl _ _⟩
  case round =>
    obtain ⟨j, rfl, hj, hR, hB⟩ := hrel
    obtain ⟨VA, vc, rfl, hvc, hCv⟩ := Kd.R_reads hR
    have hrise := rising_normF (fs.take j) [] rising_nil
    have hol := length_normF_le (fs.take j) []
    rw [List.length_take, hlen.out] at hol
    have hsnoc : ∀ x, fs[j]? = some x → JV.normF (fs.take (j + 1)) [] = insF (JV.normF (fs.take j) []) (clean x.name) x.value.norm := by
      rintro ⟨nm, v⟩ hx
      rw [List.take_add_one, hx, Option.toList_some, normF_app, JV.normF, JV.normF]
      rfl
    replace hsnoc := Aside0.mk hsnoc
    obtain ⟨m, hm⟩ : ∃ m, (JV.normF (fs.take j) []).length = m := ⟨_, rfl⟩
    rw [hm] at hvc hCv hol ⊢
    rw [hm] at hR
    by_cases hlt : j < n
    · obtain ⟨ad, x, A6, c6, A7, c7, rfl, hx, hcs, l6, g6, l7, g7⟩ := at_F (Kd.C_below hC hB) j hlt
      have hK := kV_mkK l6 g6 l7 g7
      unfold JV.cells at hcs hK
      obtain ⟨q0, q1, q2, q3, q4, q5, q6, q7, q8, _⟩ := hcs
      generalize JV.normF (fs.take j) [] = out at *
      replace hR := Aside0.mk hR
      replace hx := Aside0.mk hx
      replace hm := Aside0.mk hm
      have hol2 : m ≤ 4294967296 := by have : min j n ≤ j := Nat.min_le_left _ _; simp at hol; omega
      have hxm : x ∈ fs := List.mem_of_getElem? hx.out
      have hnx := hok x hxm
      have hwx := wt_memF hxm
      have hix := ints_memF hxm hin
      have hB3 := (Below.refl _ wr).alloc (Nat.le_refl _) (.cells #[.string x.name, .int .i64 x.value.kind, .bool x.value.truth, .bool x.value.neg, .string x.value.digits, .int .i64 x.value.exp, .string x.value.text, .slice A6 x.value.list.length c6, .slice A7 x.value.fields.length c7] 69)
      have hbx := heap_alloc_new wr (.cells #[.string x.name, .int .i64 x.value.kind, .bool x.value.truth, .bool x.value.neg, .string x.value.digits, .int .i64 x.value.exp, .string x.value.text, .slice A6 x.value.list.length c6, .slice A7 x.value.fields.length c7] 69)
      have hbs := hB.size
      have hK3 := kV.K_below hB3 hK
      have hF3 := (hF.below hB).below hB3
      have cC := clean_any x.name (wr.alloc (.cells #[.string x.name, .int .i64 x.value.kind, .bool x.value.truth, .bool x.value.neg, .string x.value.digits, .int .i64 x.value.exp, .string x.value.text, .slice A6 x.value.list.length c6, .slice A7 x.value.fields.length c7] 69)) (by omega) hF3.tabs
      have hR1 := Kd.R_below hR.out hB3
      have hB4 := hB.trans (hB3.mono hB.size)
      have hspot := (rising_part hrise (clean x.name)).le
      rw [hm.out] at hspot
      replace hB3 := Aside0.mk hB3
      replace hbx := Aside0.mk hbx
      replace hK3 := Aside0.mk hK3
      replace hF3 := Aside0.mk hF3
      replace hR1 := Aside0.mk hR1
      replace hB4 := Aside0.mk hB4
      replace hnx := Aside0.mk hnx
      clear hK hxm hCv hR hvc hol
      obtain ⟨p, hp⟩ : ∃ p, spot out (clean x.name) = p := ⟨_, rfl⟩
      have hpart := rising_part hrise (clean x.name)
      rw [hp] at hpart hspot
      by_cases hany : (out[p]?).any (fun f => sameB f.name (clean x.name)) = true
      · have cS : ∀ W, kF.C W VA m out → Calls Tryz.prog 69 #[.slice VA m vc, .string (clean x.name), .func (.func 70) #[] #[]] W fun e w' => e = .returned (.tuple #[.int .i64 p, .bool true]) ∧ Below W.heap.size W w' := by
          intro W h
          have := bsearch_any out (clean x.name) W VA m vc p h hpart (by omega)
          rw [hany] at this
          exact this
        replace hpart := Aside0.mk hpart
        replace hany := Aside0.mk hany
        generalize hcn : clean x.name = nm at *
        replace hcn := Aside0.mk hcn
        go_wp2_with (first
          | (go_at_call 34; refine cC.mono ?_; rintro e w1 ⟨rfl, hb1⟩; have hbx1 := (hb1.block wr.heap.size (by simp)).trans hbx.out; have hc := cellAll hbx1; have hf := frozenAll hbx1; replace hbx1 := Aside0.mk hbx1; have hR2 := Aside0.mk (Kd.R_below hR1.out hb1); have hs1 := hb1.size; rw [show (wr.alloc (.cells #[.string x.name, .int .i64 x.value.kind, .bool x.value.truth, .bool x.value.neg, .string x.value.digits, .int .i64 x.value.exp, .string x.value.text, .slice A6 x.value.list.length c6, .slice A7 x.value.fields.length c7] 69)).heap.size = wr.heap.size + 1 by simp] at hs1)
          | (go_at_call 69; refine (cS _ (R_C hR2.out)).mono ?_; rintro e w2 ⟨rfl, hb2⟩; clear hc hf; have hbx2 := (hb2.block wr.heap.size (by omega)).trans hbx1.out; have hc := cellAll hbx2; have hf := frozenAll hbx2; replace hbx2 := Aside0.mk hbx2; have hR3 := Aside0.mk (Kd.R_below hR2.out hb2); have hs2 := hb2.size)
          | fail)
        go_roundw
        case rel =>
          refine ⟨j + 1, by go_num, by omega, ?_, (hB4.out.trans (hb1.mono (by simp; omega))).trans (hb2.mono (by omega))⟩
          rw [hsnoc.out x hx.out, hcn.out, insF_spot hrise, hp, if_pos hany.out]
          exact hR3.out
        case measure => simp [intOf]; omega
      · have hany : (out[p]?).any (fun f => sameB f.name (clean x.name)) = false := by simpa using hany
        have cS : ∀ W, kF.C W VA m out → Calls Tryz.prog 69 #[.slice VA m vc, .string (clean x.name), .func (.func 70) #[] #[]] W fun e w' => e = .returned (.tuple #[.int .i64 p, .bool false]) ∧ Below W.heap.size W w' := by
          intro W h
          have := bsearch_any out (clean x.name) W VA m vc p h hpart (by omega)
          rw [hany] at this
          exact this
        replace hpart := Aside0.mk hpart
        replace hany := Aside0.mk hany
        generalize hcn : clean x.name = nm at *
        replace hcn := Aside0.mk hcn
        go_wp2_with (first
          | (go_at_call 34; refine cC.mono ?_; rintro e w1 ⟨rfl, hb1⟩; have hbx1 := (hb1.block wr.heap.size (by simp)).trans hbx.out; have hc := cellAll hbx1; have hf := frozenAll hbx1; replace hbx1 := Aside0.mk hbx1; have hR2 := Aside0.mk (Kd.R_below hR1.out hb1); have hs1 := hb1.size; rw [show (wr.alloc (.cells #[.string x.name, .int .i64 x.value.kind, .bool x.value.truth, .bool x.value.neg, .string x.value.digits, .int .i64 x.value.exp, .string x.value.text, .slice A6 x.value.list.length c6, .slice A7 x.value.fields.length c7] 69)).heap.size = wr.heap.size + 1 by simp] at hs1)
          | (go_at_call 69; refine (cS _ (R_C hR2.out)).mono ?_; rintro e w2 ⟨rfl, hb2⟩; clear hc hf; have hbx2 := (hb2.block wr.heap.size (by omega)).trans hbx1.out; have hc := cellAll hbx2; have hf := frozenAll hbx2; replace hbx2 := Aside0.mk hbx2; have hR3 := Aside0.mk (Kd.R_below hR2.out hb2); have hs2 := hb2.size)
          | (go_at_call 9; refine (hnx.out _ _ (kV.K_below hb2 (kV.K_below hb1 hK3.out)) ((hF3.out.below hb1).below (hb2)) (by omega) hix).mono ?_; rintro e w3 ⟨cs', rfl, hM, hb3⟩; obtain ⟨vl, vf, rfl, hRl, hRf⟩ := kV_openM hM; obtain ⟨Al, cl, rfl⟩ := Kd.R_slice hRl; obtain ⟨Af, cf, rfl⟩ := Kd.R_slice hRf; unfold JV.cells at hM; unfold JV.cells; clear hRl hRf; obtain ⟨inner, hown⟩ := Kd.R_own hR3.out; have hM1 := Aside0.mk (kV.M_lower (base' := w.heap.size) (by omega) (Kd.M_new hM hown)); have hR4 := Aside0.mk (Kd.R_below hR3.out hb3); have hs3 := hb3.size; clear hM hown)
          | (go_at_call 72; refine (insert_new w.heap.size p (.slice VA m vc) out nm x.value.norm [.int .i64 x.value.norm.kind, .bool x.value.norm.truth, .bool x.value.norm.neg, .string x.value.norm.digits, .int .i64 x.value.norm.exp, .string x.value.norm.text, .slice Al x.value.norm.list.length cl, .slice Af x.value.norm.fields.length cf] w3 hR4.out hM1.out (by rw [hm.out]; exact hspot) (by omega) (by rw [hm.out]; exact hol2)).mono ?_; rintro e w4 ⟨v1, rfl, hR5, hb5⟩))
        go_roundw
        case rel =>
          refine ⟨j + 1, by go_num, by omega, ?_, (((hB4.out.trans (hb1.mono (by simp; omega))).trans (hb2.mono (by omega))).trans (hb3.mono (by omega))).trans hb5⟩
          rw [hsnoc.out x hx.out, hcn.out, insF_spot hrise, hp, if_neg (by rw [hany.out]; simp)]
          exact hR5
        case measure => simp [intOf]; omega
    · obtain rfl : j = n := by omega
      have hfs : fs.take j = fs := by rw [← hlen.out, List.take_length]
      rw [hfs] at hR
      replace hR := Aside0.mk hR
      clear hCv hol hsnoc
      go_wp2_with fail
      go_ret
      exact ⟨_, rfl, hR.out, hB⟩

theorem norm_step (x : JV) (hl : ∀ y ∈ x.list, NormOK y) (hf : ∀ f ∈ x.fields, NormOK f.value) : NormOK x := by
  intro w cs hK hF hwt hin
  obtain ⟨A, c, B, d, rfl, hlc, hCl, hfc, hCf⟩ := kV_open hK
  clear hK
  obtain ⟨k, t, ng, ds, ex, tx, l, f⟩ := x
  simp only [JV.list, JV.fields] at *
  rw [JV.wt] at hwt
  rw [JV.ints] at hin
  obtain ⟨hik, hie, hil, hif⟩ := hin
  unfold JV.cells
  simp only [JV.kind, JV.truth, JV.neg, JV.digits, JV.exp, JV.text]
  rw [JV.norm]
  by_cases h1 : k = 1
  · rw [if_pos h1]; subst h1
    exact norm_one w t ng ds tx ex A B _ c _ d
  rw [if_neg h1]
  by_cases h2 : k = 2
  · rw [if_pos h2]; subst h2
    exact norm_num w t ng ds tx ex A B _ c _ d hF (by omega) hie.1 hie.2
  rw [if_neg h2]
  by_cases h3 : k = 3
  · rw [if_pos h3]; subst h3
    exact norm_text w t ng ds tx ex A B _ c _ d hF (by omega)
  rw [if_neg h3]
  by_cases h4 : k = 4
  · rw [if_pos h4]; subst h4
    exact norm_list w t ng ds tx ex A B _ c _ d hF l hCl hlc hl (by omega) hil
  rw [if_neg h4]
  by_cases h5 : k = 5
  · rw [if_pos h5]; subst h5
    exact norm_fields w t ng ds tx ex A B _ c _ d hF f _ hCf hfc (fun W hC hF => fields_any W B _ d f hfc hC hF hf (by omega) hif)
  rw [if_neg h5]
  exact norm_rest w k t ng ds tx ex A B _ c _ d h1 h2 h3 h4 h5
theorem norm_all : ∀ (n : Nat) (x : JV), x.wt ≤ n → NormOK x
  | 0, .mk k t ng ds ex tx l f, h => by rw [JV.wt] at h; omega
  | n + 1, .mk k t ng ds ex tx l f, h => by
    rw [JV.wt] at h
    exact norm_step _ (fun y hy => norm_all n y (by have := wt_memL hy; simp only [JV.list] at this; omega)) (fun g hg => norm_all n _ (by have := wt_memF hg; simp only [JV.fields] at this; omega))
/-- **json.Norm.** -/
theorem norm_any (x : JV) : NormOK x := norm_all _ x (Nat.le_refl _)
end Go.Proofs.YtkdeleafgailhaaGreatDoor
end
section
set_option linter.unusedVariables false
set_option linter.unusedSimpArgs false
namespace Go.Proofs.YtkdeleafgailhaaGreatDoor
open Go Go.RowKit Go.Proofs.YtkdeleafgailhaaGreatDoorW.PrintWords

/-! ### what other writers leave -/
theorem R_others {α : Type} {d : Kd α} {e : Nat} {w w1 : World} {base b : Nat} {ok : Nat → Prop} {v : Value} {xs : List α} {cells : Array Value} {t : Nat} (h : d.R e w base ok v xs) (ho : Others b w w1) (hb : w.heap[b]? = some (.cells cells t (0, 0))) (hE : ∀ q ∈ e :: d.E, q ≠ 5 ∧ q ≠ t) : d.R e w1 base ok v xs := by
  refine Kd.R_mono (Kd.R_move (w1 := w1) (Kd.R_bound h) ?_) (fun _ hk => hk.1)
  rintro k ⟨_, _, _, q, hq, cs, hc⟩
  rw [hc]
  refine ho k _ hc ?_ ?_
  · rintro he
    injection he with he
    rw [he, hb] at hc
    injection hc with hc
    injection hc with _ hc
    exact (hE q hq).2 hc.symm
  · intro c fz he
    injection he with _ he
    exact (hE q hq).1 he
theorem M_others {α : Type} {d : Kd α} {w w1 : World} {base b : Nat} {ok : Nat → Prop} {x : α} {cs : List Value} {cells : Array Value} {t : Nat} (h : d.M w base ok x cs) (ho : Others b w w1) (hb : w.heap[b]? = some (.cells cells t (0, 0))) (hE : ∀ q ∈ d.E, q ≠ 5 ∧ q ≠ t) : d.M w1 base ok x cs := by
  refine d.M_mono (fun _ hk => hk.1) (d.M_move (w1 := w1) ?_ (d.M_bound h))
  rintro k ⟨_, _, _, q, hq, cs, hc⟩
  rw [hc]
  refine ho k _ hc ?_ ?_
  · rintro he
    injection he with he
    rw [he, hb] at hc
    injection hc with hc
    injection hc with _ hc
    exact (hE q hq).2 hc.symm
  · intro c fz he
    injection he with _ he
    exact (hE q hq).1 he
theorem kV_E : ∀ q ∈ kV.E, q ≠ 5 ∧ q ≠ 101 := by decide
theorem kVe_E : ∀ q ∈ 27 :: kV.E, q ≠ 5 ∧ q ≠ 101 := by decide
theorem kFe_E : ∀ q ∈ 69 :: kF.E, q ≠ 5 ∧ q ≠ 101 := by decide
theorem IsB.blk {B b : Nat} {l : List UInt8} {w : World} (h : IsB B b l w) : ∃ cells, w.heap[b]? = some (.cells cells 101 (0, 0)) := by
  rcases h with h | h
  · obtain ⟨_, v, hb, _⟩ := h; exact ⟨_, hb⟩
  · obtain ⟨_, v, hb, _⟩ := h; exact ⟨_, hb⟩
theorem IsB.le {B b : Nat} {l : List UInt8} {w : World} (h : IsB B b l w) : B ≤ b := by
  rcases h with h | h
  · exact h.1
  · exact h.1
theorem IsB.lt {B b : Nat} {l : List UInt8} {w : World} (h : IsB B b l w) : b < w.heap.size := by
  obtain ⟨_, hc⟩ := h.blk
  exact (Array.getElem?_eq_some_iff.1 hc).1
theorem IsB.below {B b : Nat} {l : List UInt8} {w w' : World} (h : IsB B b l w) (hb : Below w.heap.size w w') : IsB B b l w' := Lib.IsBuilderF.below h hb
/-- What a call that only makes new blocks leaves. -/
theorem others_below {b : Nat} {w w' : World} (hb : Below w.heap.size w w') : Others b w w' := fun k o hk _ _ => (hb.block k (Array.getElem?_eq_some_iff.1 hk).1).trans hk

/-- put itself, as its variable holds it. -/
def clo (b g : Nat) : Value := .func (.func 60) #[] #[.pointer (some ⟨b, 0, none⟩), .pointer (some ⟨g, 0, none⟩)]
/-- The printing under way: the builder b, the variable g of put. -/
structure PS (B b g : Nat) (w0 : World) (acc : List UInt8) (W : World) : Prop where
  isB : IsB B b acc W
  put : W.heap[g]? = some (.cells #[clo b g] 102 (0, 0))
  le : w0.heap.size ≤ B
  low : Below w0.heap.size w0 W
  facts : Facts w0
theorem PS.ne {B b g : Nat} {w0 : World} {acc : List UInt8} {W : World} (h : PS B b g w0 acc W) : g ≠ b := by
  rintro rfl
  obtain ⟨_, hc⟩ := h.isB.blk
  rw [h.put] at hc
  injection hc with hc
  injection hc with _ hc
  revert hc
  decide
theorem PS.step {B b g : Nat} {w0 : World} {acc acc' : List UInt8} {W W' : World} (h : PS B b g w0 acc W) (hB : IsB B b acc' W') (hb : Below B W W') (ho : Others b W W') : PS B b g w0 acc' W' :=
  ⟨hB, ho g _ h.put (by intro e; injection e with e; exact h.ne e) (by intro c fz e; injection e with _ e; revert e; decide), h.le, h.low.trans (hb.mono h.le), h.facts⟩
theorem PS.below {B b g : Nat} {w0 : World} {acc : List UInt8} {W W' : World} (h : PS B b g w0 acc W) (hb : Below W.heap.size W W') : PS B b g w0 acc W' :=
  h.step (h.isB.below hb) (hb.mono (by have := h.isB.le; have := h.isB.lt; omega)) (others_below hb)
theorem PS.fct {B b g : Nat} {w0 : World} {acc : List UInt8} {W : World} (h : PS B b g w0 acc W) : Facts W := h.facts.below h.low
theorem PS.size {B b g : Nat} {w0 : World} {acc : List UInt8} {W : World} (h : PS B b g w0 acc W) : B ≤ W.heap.size := by have := h.isB.le; have := h.isB.lt; omega
/-- From one world to the next: only the builder has been written, and new blocks made. -/
structure Went (B b : Nat) (w w' : World) : Prop where
  below : Below B w w'
  others : Others b w w'
theorem Went.refl (B b : Nat) (w : World) : Went B b w w := ⟨Below.refl _ _, Lib.OthersKept.refl _ _ _⟩
theorem Went.trans {B b : Nat} {w1 w2 w3 : World} (h : Went B b w1 w2) (k : Went B b w2 w3) : Went B b w1 w3 := ⟨h.below.trans k.below, h.others.trans k.others⟩
theorem PS.went {B b g : Nat} {w0 : World} {acc : List UInt8} {W W' : World} (h : PS B b g w0 acc W) (hb : Below W.heap.size W W') : Went B b W W' := ⟨hb.mono h.size, others_below hb⟩
theorem string_p {B b g : Nat} {w0 : World} {acc : List UInt8} {w : World} (h : PS B b g w0 acc w) (s : ByteArray) (hl : acc.length + s.size ≤ 140737488355328) :
    Calls Tryz.prog 61 #[.pointer (some ⟨b, 0, none⟩), .string s] w fun e w' => e = .returned (.tuple #[.int .i64 s.size, .nilIface]) ∧ PS B b g w0 (acc ++ s.data.toList) w' ∧ Went B b w w' := by
  refine (writeString_k B b acc s w h.isB hl h.size).mono ?_
  rintro e w' ⟨rfl, h1, h2, h3⟩
  exact ⟨rfl, h.step h1 h2 h3, h2, h3⟩
theorem byte_p {B b g : Nat} {w0 : World} {acc : List UInt8} {w : World} (h : PS B b g w0 acc w) (c : Int) (hc0 : 0 ≤ c) (hc1 : c ≤ 255) (hl : acc.length + 1 ≤ 140737488355328) :
    Calls Tryz.prog 64 #[.pointer (some ⟨b, 0, none⟩), .int .u8 c] w fun e w' => e = .returned .nilIface ∧ PS B b g w0 (acc ++ [c.toNat.toUInt8]) w' ∧ Went B b w w' := by
  refine (writeByte_k B b acc c hc0 hc1 w h.isB hl h.size).mono ?_
  rintro e w' ⟨rfl, h1, h2, h3⟩
  exact ⟨rfl, h.step h1 h2 h3, h2, h3⟩
theorem quoted_p {B b g : Nat} {w0 : World} {acc : List UInt8} {w : World} (h : PS B b g w0 acc w) (s : ByteArray) (hl : acc.length + 8 * s.size + 16 ≤ 140737488355328) :
    Calls Tryz.prog 63 #[.pointer (some ⟨b, 0, none⟩), .string s] w fun e w' => e = .returned (.tuple #[]) ∧ PS B b g w0 (acc ++ quoted s) w' ∧ Went B b w w' := by
  refine (quoted_any B b acc s w h.isB h.size hl).mono ?_
  rintro e w' ⟨rfl, h1, h2, h3⟩
  exact ⟨rfl, h.step h1 h2 h3, h2, h3⟩
/-- What put does at one value. -/
def PutOK (x : JV) : Prop := ∀ (B b g : Nat) (w0 : World) (acc : List UInt8) (w : World) (cs : List Value), PS B b g w0 acc w → kV.M w 0 (fun _ => True) x cs → x.wt ≤ 4294967296 → x.ints → acc.length + 64 * x.wt ≤ 140737488355328 →
  Calls Tryz.prog 60 #[.agg cs.toArray, .pointer (some ⟨b, 0, none⟩), .pointer (some ⟨g, 0, none⟩)] w fun e w' => e = .returned (.tuple #[]) ∧ PS B b g w0 (acc ++ x.put) w' ∧ Went B b w w'
theorem decText_len (ng : Bool) (ds : ByteArray) (ex : Int) : (decText ng ds ex).length ≤ ds.size + 23 := by
  have hb := decForm_bounds ng ds ex
  have hi := Lib.itoa_length_le (decNorm ng ds ex).exp (by unfold decNorm; omega) (by unfold decNorm; omega)
  have hs : (decNorm ng ds ex).digits.data.toList.length ≤ ds.size := by
    rw [Array.length_toList]; exact hb.1
  unfold decText
  split
  · simp
  · rw [List.length_append, List.length_append]
    have h1 : (if (decNorm ng ds ex).neg = true then ([45] : List UInt8) else []).length ≤ 1 := by split <;> simp
    have h2 : (if (decNorm ng ds ex).exp = 0 then [] else 101 :: Lib.itoa (decNorm ng ds ex).exp).length ≤ 22 := by split <;> simp; omega
    omega

set_option maxRecDepth 100000 in
set_option maxHeartbeats 4000000 in
theorem put_num (B b g : Nat) (w0 : World) (acc : List UInt8) (w : World) (t ng : Bool) (ds tx : ByteArray) (ex : Int) (A1 A2 : Option Addr) (n1 c1 n2 c2 : Nat) (h : PS B b g w0 acc w) (hs : ds.size ≤ 4294967296) (he0 : -9223372036854775808 ≤ ex) (he1 : ex ≤ 9223372036854775807) (hlen : acc.length + 64 * (1 + ds.size) ≤ 140737488355328) :
    Calls Tryz.prog 60 #[.agg #[.int .i64 2, .bool t, .bool ng, .string ds, .int .i64 ex, .string tx, .slice A1 n1 c1, .slice A2 n2 c2], .pointer (some ⟨b, 0, none⟩), .pointer (some ⟨g, 0, none⟩)] w fun e w' => e = .returned (.tuple #[]) ∧ PS B b g w0 (acc ++ decText ng ds ex) w' ∧ Went B b w w' := by
  have hb0 := (Below.refl _ w).alloc (Nat.le_refl _) (.cells #[.int .i64 2, .bool t, .bool ng, .string ds, .int .i64 ex, .string tx, .slice A1 n1 c1, .slice A2 n2 c2] 27)
  have hP1 := h.below hb0
  have hw1 := h.went hb0
  have cT := decText_any ng ds ex _ hs he0 he1 hP1.fct
  have hT := decText_len ng ds ex
  generalize decText ng ds ex = T at cT hT ⊢
  have hTs := size_mk T
  have hTd : (⟨T.toArray⟩ : ByteArray).data.toList = T := rfl
  replace hw1 := Aside0.mk hw1
  generalize (⟨T.toArray⟩ : ByteArray) = S at *
  clear hb0
  go_enter Tryz.func60, Tryz.ntmps60
  go_wp2_with (first
    | (go_at_call 62; refine cT.mono ?_; rintro e w1 ⟨rfl, hb1⟩; have hP2 := hP1.below hb1; have hw2 := hP1.went hb1)
    | (go_at_call 61; refine (string_p hP2 S (by omega)).mono ?_; rintro e w2 ⟨rfl, hP3, hw3⟩))
  go_end0
  exact ⟨rfl, by rw [← hTd]; exact hP3, (hw1.out.trans hw2).trans hw3⟩

set_option maxRecDepth 100000 in
set_option maxHeartbeats 4000000 in
theorem put_text (B b g : Nat) (w0 : World) (acc : List UInt8) (w : World) (t ng : Bool) (ds tx : ByteArray) (ex : Int) (A1 A2 : Option Addr) (n1 c1 n2 c2 : Nat) (h : PS B b g w0 acc w) (hlen : acc.length + 64 * (1 + tx.size) ≤ 140737488355328) :
    Calls Tryz.prog 60 #[.agg #[.int .i64 3, .bool t, .bool ng, .string ds, .int .i64 ex, .string tx, .slice A1 n1 c1, .slice A2 n2 c2], .pointer (some ⟨b, 0, none⟩), .pointer (some ⟨g, 0, none⟩)] w fun e w' => e = .returned (.tuple #[]) ∧ PS B b g w0 (acc ++ quoted tx) w' ∧ Went B b w w' := by
  have hb0 := (Below.refl _ w).alloc (Nat.le_refl _) (.cells #[.int .i64 3, .bool t, .bool ng, .string ds, .int .i64 ex, .string tx, .slice A1 n1 c1, .slice A2 n2 c2] 27)
  have hP1 := h.below hb0
  have hw1 := Aside0.mk (h.went hb0)
  clear hb0
  go_enter Tryz.func60, Tryz.ntmps60
  go_wp2_with (go_at_call 63; refine (quoted_p hP1 tx (by omega)).mono ?_; rintro e w2 ⟨rfl, hP3, hw3⟩)
  go_end0
  exact ⟨rfl, hP3, hw1.out.trans hw3⟩

set_option maxRecDepth 100000 in
set_option maxHeartbeats 4000000 in
theorem put_true (B b g : Nat) (w0 : World) (acc : List UInt8) (w : World) (t ng : Bool) (ds tx : ByteArray) (ex : Int) (A1 A2 : Option Addr) (n1 c1 n2 c2 : Nat) (h : PS B b g w0 acc w) (hlen : acc.length + 64 ≤ 140737488355328) :
    Calls Tryz.prog 60 #[.agg #[.int .i64 1, .bool t, .bool ng, .string ds, .int .i64 ex, .string tx, .slice A1 n1 c1, .slice A2 n2 c2], .pointer (some ⟨b, 0, none⟩), .pointer (some ⟨g, 0, none⟩)] w fun e w' => e = .returned (.tuple #[]) ∧ PS B b g w0 (acc ++ (if t = true then [116, 114, 117, 101] else [102, 97, 108, 115, 101])) w' ∧ Went B b w w' := by
  have hb0 := (Below.refl _ w).alloc (Nat.le_refl _) (.cells #[.int .i64 1, .bool t, .bool ng, .string ds, .int .i64 ex, .string tx, .slice A1 n1 c1, .slice A2 n2 c2] 27)
  have hP1 := h.below hb0
  have hw1 := Aside0.mk (h.went hb0)
  clear hb0
  cases t
  · go_enter Tryz.func60, Tryz.ntmps60
    go_wp2_with (go_at_call 61; refine (string_p hP1 ⟨#[102, 97, 108, 115, 101]⟩ (by show acc.length + 5 ≤ _; omega)).mono ?_; rintro e w2 ⟨rfl, hP3, hw3⟩)
    go_end0
    exact ⟨rfl, hP3, hw1.out.trans hw3⟩
  · go_enter Tryz.func60, Tryz.ntmps60
    go_wp2_with (go_at_call 61; refine (string_p hP1 ⟨#[116, 114, 117, 101]⟩ (by show acc.length + 4 ≤ _; omega)).mono ?_; rintro e w2 ⟨rfl, hP3, hw3⟩)
    go_end0
    exact ⟨rfl, hP3, hw1.out.trans hw3⟩

set_option maxRecDepth 100000 in
set_option maxHeartbeats 4000000 in
theorem put_rest (B b g : Nat) (w0 : World) (acc : List UInt8) (w : World) (k : Int) (t ng : Bool) (ds tx : ByteArray) (ex : Int) (A1 A2 : Option Addr) (n1 c1 n2 c2 : Nat) (h : PS B b g w0 acc w) (hlen : acc.length + 64 ≤ 140737488355328) (h1 : ¬ k = 1) (h2 : ¬ k = 2) (h3 : ¬ k = 3) (h4 : ¬ k = 4) (h5 : ¬ k = 5) :
    Calls Tryz.prog 60 #[.agg #[.int .i64 k, .bool t, .bool ng, .string ds, .int .i64 ex, .string tx, .slice A1 n1 c1, .slice A2 n2 c2], .pointer (some ⟨b, 0, none⟩), .pointer (some ⟨g, 0, none⟩)] w fun e w' => e = .returned (.tuple #[]) ∧ PS B b g w0 (acc ++ [110, 117, 108, 108]) w' ∧ Went B b w w' := by
  have hb0 := (Below.refl _ w).alloc (Nat.le_refl _) (.cells #[.int .i64 k, .bool t, .bool ng, .string ds, .int .i64 ex, .string tx, .slice A1 n1 c1, .slice A2 n2 c2] 27)
  have hP1 := h.below hb0
  have hw1 := Aside0.mk (h.went hb0)
  clear hb0
  have b1 : (k == 1) = false := by simpa using h1
  have b2 : (k == 2) = false := by simpa using h2
  have b3 : (k == 3) = false := by simpa using h3
  have b4 : (k == 4) = false := by simpa using h4
  have b5 : (k == 5) = false := by simpa using h5
  go_enter Tryz.func60, Tryz.ntmps60
  go_wp2_with (go_at_call 61; refine (string_p hP1 ⟨#[110, 117, 108, 108]⟩ (by show acc.length + 4 ≤ _; omega)).mono ?_; rintro e w2 ⟨rfl, hP3, hw3⟩)
  go_end0
  exact ⟨rfl, hP3, hw1.out.trans hw3⟩
end Go.Proofs.YtkdeleafgailhaaGreatDoor
end
section
set_option linter.unusedVariables false
set_option linter.unusedSimpArgs false
namespace Go.Proofs.YtkdeleafgailhaaGreatDoor
open Go Go.RowKit Go.Proofs.YtkdeleafgailhaaGreatDoorW.PrintWords

/-! ### elements of rows that were made -/
theorem at_VM {w : World} {e base : Nat} {ok : Nat → Prop} {v : Value} {xs : List JV} (h : kV.R e w base ok v xs) (k : Nat) (hk : k < xs.length) : ∃ ad c x A6 c6 A7 c7, v = .slice (some ad) xs.length c ∧ xs[k]? = some x ∧ CellsAt w (ad.add (k * 8)) 0 (x.cells (.slice A6 x.list.length c6) (.slice A7 x.fields.length c7)) ∧
    kV.M w base (fun k => ok k ∧ some k ≠ v.ownBlock) x (x.cells (.slice A6 x.list.length c6) (.slice A7 x.fields.length c7)) := by
  obtain ⟨A, c, rfl, hl, hr⟩ := OwnRow.reads h.2
  obtain ⟨ad, cs, e1, _, hM, hc0⟩ := ReadsRow.get_ hr JV.nul k (by omega) (by omega)
  subst e1
  rw [Int.toNat_natCast] at hM hc0
  obtain ⟨vl, vf, rfl, hRl, hRf⟩ := kV_openM hM
  obtain ⟨A6, c6, rfl⟩ := Kd.R_slice hRl
  obtain ⟨A7, c7, rfl⟩ := Kd.R_slice hRf
  exact ⟨ad, c, _, A6, c6, A7, c7, rfl, by simp [hk], cellsAt_of (cs := []) 0 _ (fun i u hi => by rw [Nat.zero_add]; exact hc0 i u hi), hM⟩
theorem at_FM {w : World} {e base : Nat} {ok : Nat → Prop} {v : Value} {xs : List JF} (h : kF.R e w base ok v xs) (k : Nat) (hk : k < xs.length) : ∃ ad c x A6 c6 A7 c7, v = .slice (some ad) xs.length c ∧ xs[k]? = some x ∧ CellsAt w (ad.add (k * 9)) 0 (.string x.name :: x.value.cells (.slice A6 x.value.list.length c6) (.slice A7 x.value.fields.length c7)) ∧
    kV.M w base (fun k => ok k ∧ some k ≠ v.ownBlock) x.value (x.value.cells (.slice A6 x.value.list.length c6) (.slice A7 x.value.fields.length c7)) := by
  obtain ⟨A, c, rfl, hl, hr⟩ := OwnRow.reads h.2
  obtain ⟨ad, cs, e1, _, hM, hc0⟩ := ReadsRow.get_ hr JF.nul k (by omega) (by omega)
  subst e1
  rw [Int.toNat_natCast] at hM hc0
  obtain ⟨c0, c1, rfl, rfl, hM⟩ := hM
  obtain ⟨vl, vf, rfl, hRl, hRf⟩ := kV_openM hM
  obtain ⟨A6, c6, rfl⟩ := Kd.R_slice hRl
  obtain ⟨A7, c7, rfl⟩ := Kd.R_slice hRf
  exact ⟨ad, c, _, A6, c6, A7, c7, rfl, by simp [hk], cellsAt_of (cs := []) 0 _ (fun i u hi => by rw [Nat.zero_add]; exact hc0 i u hi), hM⟩

/-! ### how long the printed text is -/
theorem quoteFrom_len (s : ByteArray) : ∀ (fuel pos : Nat), (quoteFrom s fuel pos).length ≤ 8 * (s.size - pos)
  | 0, _ => by simp [quoteFrom]
  | fuel + 1, pos => by
    rw [quoteFrom]
    split
    · rename_i hp
      have h1 := quoteRune_le (Utf8.decode s pos).1
      have h2 := width_pos s pos hp
      have h3 := quoteFrom_len s fuel (pos + (Utf8.decode s pos).2)
      rw [List.length_append]
      omega
    · simp
theorem quoted_len (s : ByteArray) : (quoted s).length ≤ 8 * s.size + 2 := by
  unfold quoted
  have := quoteFrom_len s s.size 0
  simp; omega
mutual
theorem put_len : ∀ (x : JV), x.put.length ≤ 32 * x.wt
  | .mk k t ng ds ex tx l f => by
    rw [JV.put, JV.wt]
    split
    · split <;> simp <;> omega
    · split
      · have := decText_len ng ds ex; omega
      · split
        · have := quoted_len tx; omega
        · split
          · have := putL_len l 91
            rw [List.length_append]
            split <;> simp <;> omega
          · split
            · have := putF_len f 123
              rw [List.length_append]
              split <;> simp <;> omega
            · simp; omega
theorem putL_len : ∀ (l : List JV) (c : UInt8), (JV.putL c l).length ≤ 32 * JV.wtL l
  | [], _ => by rw [JV.putL]; simp
  | x :: l, c => by
    rw [JV.putL, JV.wtL, List.length_cons, List.length_append]
    have := put_len x
    have := putL_len l 44
    omega
theorem putF_len : ∀ (l : List JF) (c : UInt8), (JV.putF c l).length ≤ 32 * JV.wtF l
  | [], _ => by rw [JV.putF]; simp
  | .mk nm v :: l, c => by
    rw [JV.putF, JV.wtF, List.length_cons, List.length_append, List.length_cons, List.length_append]
    have := put_len v
    have := putF_len l 44
    have := quoted_len nm
    omega
end
theorem wtL_app : ∀ (a b : List JV), JV.wtL (a ++ b) = JV.wtL a + JV.wtL b
  | [], b => by show JV.wtL b = JV.wtL [] + _; rw [JV.wtL]; omega
  | x :: a, b => by show JV.wtL (x :: (a ++ b)) = _; rw [JV.wtL, JV.wtL, wtL_app a b]; omega
theorem wtF_app : ∀ (a b : List JF), JV.wtF (a ++ b) = JV.wtF a + JV.wtF b
  | [], b => by show JV.wtF b = JV.wtF [] + _; rw [JV.wtF]; omega
  | .mk nm v :: a, b => by show JV.wtF (.mk nm v :: (a ++ b)) = _; rw [JV.wtF, JV.wtF, wtF_app a b]; omega
theorem wtL_take {xs : List JV} {j : Nat} {x : JV} (h : xs[j]? = some x) : JV.wtL (xs.take j) + 1 + x.wt ≤ JV.wtL xs := by
  have h1 : JV.wtL (xs.take (j + 1)) = JV.wtL (xs.take j) + (1 + x.wt) := by
    rw [List.take_add_one, h, Option.toList_some, wtL_app, JV.wtL, JV.wtL]; omega
  have h2 : JV.wtL xs = JV.wtL (xs.take (j + 1)) + JV.wtL (xs.drop (j + 1)) := by rw [← wtL_app, List.take_append_drop]
  omega
theorem wtF_take {xs : List JF} {j : Nat} {x : JF} (h : xs[j]? = some x) : JV.wtF (xs.take j) + 1 + x.name.size + x.value.wt ≤ JV.wtF xs := by
  have h1 : JV.wtF (xs.take (j + 1)) = JV.wtF (xs.take j) + (1 + x.name.size + x.value.wt) := by
    obtain ⟨nm, v⟩ := x
    rw [List.take_add_one, h, Option.toList_some, wtF_app, JV.wtF, JV.wtF]; simp only [JF.name, JF.value]; omega
  have h2 : JV.wtF xs = JV.wtF (xs.take (j + 1)) + JV.wtF (xs.drop (j + 1)) := by rw [← wtF_app, List.take_append_drop]
  omega
theorem putL_snoc : ∀ (a : List JV) (x : JV) (c : UInt8), JV.putL c (a ++ [x]) = JV.putL c a ++ ((if a.length = 0 then c else 44) :: x.put)
  | [], x, c => by simp [JV.putL]
  | y :: a, x, c => by
    show JV.putL c (y :: (a ++ [x])) = _
    rw [JV.putL, JV.putL, putL_snoc a x 44]
    simp
theorem putF_snoc : ∀ (a : List JF) (x : JF) (c : UInt8), JV.putF c (a ++ [x]) = JV.putF c a ++ ((if a.length = 0 then c else 44) :: (quoted x.name ++ (58 :: x.value.put)))
  | [], .mk nm v, c => by simp [JV.putF, JF.name, JF.value]
  | .mk nm' v' :: a, x, c => by
    show JV.putF c (.mk nm' v' :: (a ++ [x])) = _
    rw [JV.putF, JV.putF, putF_snoc a x 44]
    simp
theorem brk (a b : UInt8) (j : Nat) : ∀ h : (min (j : Int) 1).toNat < (⟨#[a, b]⟩ : ByteArray).size, (⟨#[a, b]⟩ : ByteArray)[(min (j : Int) 1).toNat]'h = if j = 0 then a else b := by
  intro h
  cases j with
  | zero => rfl
  | succ j =>
    rw [if_neg (by omega)]
    have e : (min ((j + 1 : Nat) : Int) 1).toNat = 1 := by omega
    simp only [e]
    rfl
theorem brk2 (a b : UInt8) (j : Nat) : (⟨#[a, b]⟩ : ByteArray).extract (min (j : Int) 1).toNat 2 = if j = 0 then ⟨#[a, b]⟩ else ⟨#[b]⟩ := by
  cases j with
  | zero => rfl
  | succ j =>
    rw [if_neg (by omega)]
    have e : (min ((j + 1 : Nat) : Int) 1).toNat = 1 := by omega
    simp only [e]
    rfl
theorem brk2_size (a b : UInt8) (j : Nat) : ((⟨#[a, b]⟩ : ByteArray).extract (min (j : Int) 1).toNat 2).size ≤ 2 := by
  rw [brk2]
  split
  · exact Nat.le_refl 2
  · exact Nat.le_succ 1
theorem took (j : Nat) {xs : List JV} (h : j < xs.length) : (xs.take j).length = j := by rw [List.length_take]; omega
theorem tookF (j : Nat) {xs : List JF} (h : j < xs.length) : (xs.take j).length = j := by rw [List.length_take]; omega

set_option maxRecDepth 100000 in
set_option maxHeartbeats 4000000 in
theorem put_list (B b g : Nat) (w0 : World) (acc : List UInt8) (w : World) (t ng : Bool) (ds tx : ByteArray) (ex : Int) (v : Value) (xs : List JV) (A2 : Option Addr) (n2 c2 : Nat) (h : PS B b g w0 acc w) (hR : kV.R 27 w 0 (fun _ => True) v xs) (hok : ∀ y ∈ xs, PutOK y) (hwt : JV.wtL xs ≤ 4294967296) (hin : JV.intsL xs) (hlen : acc.length + 64 * (1 + JV.wtL xs) ≤ 140737488355328) :
    Calls Tryz.prog 60 #[.agg #[.int .i64 4, .bool t, .bool ng, .string ds, .int .i64 ex, .string tx, v, .slice A2 n2 c2], .pointer (some ⟨b, 0, none⟩), .pointer (some ⟨g, 0, none⟩)] w fun e w' => e = .returned (.tuple #[]) ∧ PS B b g w0 (acc ++ (JV.putL 91 xs ++ (if xs.length = 0 then [91, 93] else [93]))) w' ∧ Went B b w w' := by
  obtain ⟨A1, c1, rfl⟩ := Kd.R_slice hR
  obtain ⟨n, hn⟩ : ∃ n, xs.length = n := ⟨_, rfl⟩
  rw [hn] at hR ⊢
  have hll := wtL_len xs
  have hn2 : n ≤ 4294967296 := by omega
  have hb0 := (Below.refl _ w).alloc (Nat.le_refl _) (.cells #[.int .i64 4, .bool t, .bool ng, .string ds, .int .i64 ex, .string tx, .slice A1 n c1, .slice A2 n2 c2] 27)
  have hbx := heap_alloc_new w (.cells #[.int .i64 4, .bool t, .bool ng, .string ds, .int .i64 ex, .string tx, .slice A1 n c1, .slice A2 n2 c2] 27)
  have hP1 := h.below hb0
  have hw1 := h.went hb0
  have hR1 := Kd.R_below hR hb0
  replace hn := Aside0.mk hn
  replace hbx := Aside0.mk hbx
  clear hb0 hR
  go_enter Tryz.func60, Tryz.ntmps60
  go_wp2_with fail
  go_loopw [33] (fun i wr => ∃ j : Nat, i = .int .i64 j ∧ j ≤ n ∧ PS B b g w0 (acc ++ JV.putL 91 (xs.take j)) wr ∧ Went B b (w.alloc (.cells #[.int .i64 4, .bool t, .bool ng, .string ds, .int .i64 ex, .string tx, .slice A1 n c1, .slice A2 n2 c2] 27)) wr) (fun i _ => n - (intOf i).toNat)
  case atStart => exact ⟨0, rfl, Nat.zero_le _, by simpa [JV.putL, JV.putF] using hP1, Went.refl _ _ _⟩
  case round =>
    obtain ⟨j, rfl, hj, hP, hW⟩ := hrel
    by_cases hlt : j < n
    · obtain ⟨cells, hbb⟩ := hP1.isB.blk
      have hRr := R_others hR1 hW.others hbb kVe_E
      obtain ⟨ad, c, x, A6, c6, A7, c7, he, hx, hcs, hM⟩ := at_VM hRr j (by rw [hn.out]; exact hlt)
      injection he with he1 he2 he3
      subst he1
      unfold JV.cells at hcs hM
      obtain ⟨q0, q1, q2, q3, q4, q5, q6, q7, _⟩ := hcs
      replace hx := Aside0.mk hx
      replace hbb := Aside0.mk hbb
      clear he2 he3
      have hxm : x ∈ xs := List.mem_of_getElem? hx.out
      have hnx := hok x hxm
      have hwx := wt_memL hxm
      have hix := ints_memL hxm hin
      have hwj := wtL_take hx.out
      have hpl := putL_len (xs.take j) 91
      have hb3 := (Below.refl _ wr).alloc (Nat.le_refl _) (.cells #[.int .i64 x.kind, .bool x.truth, .bool x.neg, .string x.digits, .int .i64 x.exp, .string x.text, .slice A6 x.list.length c6, .slice A7 x.fields.length c7] 27)
      have hbx3 := heap_alloc_new wr (.cells #[.int .i64 x.kind, .bool x.truth, .bool x.neg, .string x.digits, .int .i64 x.exp, .string x.text, .slice A6 x.list.length c6, .slice A7 x.fields.length c7] 27)
      have hP3 := hP.below hb3
      have hW3 := Aside0.mk (hW.trans (hP.went hb3))
      have hM3 := kV.M_mono (fun _ _ => trivial) (Kd.M_below hM hb3)
      have hne : wr.heap.size ≠ b := by have := hP.isB.lt; omega
      obtain ⟨cells3, hbb3⟩ := hP3.isB.blk
      replace hbb3 := Aside0.mk hbb3
      replace hM3 := Aside0.mk hM3
      replace hbx3 := Aside0.mk hbx3
      replace hnx := Aside0.mk hnx
      replace hR1 := Aside0.mk hR1
      clear hM hRr hb3 hxm
      go_wp2_with (first
        | (go_at_call 64; refine (byte_p hP3 _ (Int.natCast_nonneg _) (byte_le _) (by rw [List.length_append]; omega)).mono ?_; rintro e w2 ⟨rfl, hP2, hW2⟩; rw [byte_back, brk] at hP2; have hbx := hW2.others _ _ hbx3.out (by intro e; injection e with e; exact hne e) (by intro c fz e; injection e with _ e; revert e; decide); have hc5 := cellAll hbx; have hcg := cellAll hP2.put; unfold clo at hcg; have hM2 := Aside0.mk (M_others hM3.out hW2.others hbb3.out kV_E); clear hbx)
        | (go_at_call 60; refine (hnx.out B b g w0 _ w2 _ hP2 hM2.out (by omega) hix (by simp only [List.length_append, List.length_cons, List.length_nil]; omega)).mono ?_; rintro e w3 ⟨rfl, hP4, hW4⟩))
      go_roundw
      case rel =>
        refine ⟨j + 1, by go_num, by omega, ?_, (hW3.out.trans hW2).trans hW4⟩
        have hlj : j < xs.length := by rw [hn.out]; exact hlt
        have hx2 := hx.out
        rw [List.take_add_one, hx2, Option.toList_some, putL_snoc, took j hlj]
        simpa using hP4
      case measure => simp [intOf]; omega
    · obtain rfl : j = n := by omega
      have hbxr := hW.others _ _ hbx.out (by intro e; injection e with e; have := h.isB.lt; omega) (by intro c fz e; injection e with _ e; revert e; decide)
      have hc0 := cellAll hbxr
      have htk : xs.take j = xs := by rw [← hn.out, List.take_length]
      rw [htk] at hP
      have hpl := putL_len xs 91
      clear hbxr
      go_wp2_with (go_at_call 61; refine (string_p hP _ (by have := brk2_size 91 93 j; rw [List.length_append]; omega)).mono ?_; rintro e w4 ⟨rfl, hP4, hW4⟩; rw [brk2] at hP4)
      all_goals go_end0
      all_goals refine ⟨rfl, ?_, (hw1.trans hW).trans hW4⟩
      all_goals rw [← List.append_assoc]
      all_goals (first | (rw [if_pos (by assumption)] at hP4; exact hP4) | (rw [if_neg (by assumption)] at hP4; exact hP4) | (rw [if_neg (by omega)] at hP4; exact hP4) | (rw [if_pos (by omega)] at hP4; exact hP4))

set_option maxRecDepth 100000 in
set_option maxHeartbeats 4000000 in
theorem put_fields (B b g : Nat) (w0 : World) (acc : List UInt8) (w : World) (t ng : Bool) (ds tx : ByteArray) (ex : Int) (v : Value) (xs : List JF) (A2 : Option Addr) (n2 c2 : Nat) (h : PS B b g w0 acc w) (hR : kF.R 69 w 0 (fun _ => True) v xs) (hok : ∀ y ∈ xs, PutOK y.value) (hwt : JV.wtF xs ≤ 4294967296) (hin : JV.intsF xs) (hlen : acc.length + 64 * (1 + JV.wtF xs) ≤ 140737488355328) :
    Calls Tryz.prog 60 #[.agg #[.int .i64 5, .bool t, .bool ng, .string ds, .int .i64 ex, .string tx, .slice A2 n2 c2, v], .pointer (some ⟨b, 0, none⟩), .pointer (some ⟨g, 0, none⟩)] w fun e w' => e = .returned (.tuple #[]) ∧ PS B b g w0 (acc ++ (JV.putF 123 xs ++ (if xs.length = 0 then [123, 125] else [125]))) w' ∧ Went B b w w' := by
  obtain ⟨A1, c1, rfl⟩ := Kd.R_slice hR
  obtain ⟨n, hn⟩ : ∃ n, xs.length = n := ⟨_, rfl⟩
  rw [hn] at hR ⊢
  have hll := wtF_len xs
  have hn2 : n ≤ 4294967296 := by omega
  have hb0 := (Below.refl _ w).alloc (Nat.le_refl _) (.cells #[.int .i64 5, .bool t, .bool ng, .string ds, .int .i64 ex, .string tx, .slice A2 n2 c2, .slice A1 n c1] 27)
  have hbx := heap_alloc_new w (.cells #[.int .i64 5, .bool t, .bool ng, .string ds, .int .i64 ex, .string tx, .slice A2 n2 c2, .slice A1 n c1] 27)
  have hP1 := h.below hb0
  have hw1 := h.went hb0
  have hR1 := Kd.R_below hR hb0
  replace hn := Aside0.mk hn
  replace hbx := Aside0.mk hbx
  clear hb0 hR
  go_enter Tryz.func60, Tryz.ntmps60
  go_wp2_with fail
  go_loopw [57] (fun i wr => ∃ j : Nat, i = .int .i64 j ∧ j ≤ n ∧ PS B b g w0 (acc ++ JV.putF 123 (xs.take j)) wr ∧ Went B b (w.alloc (.cells #[.int .i64 5, .bool t, .bool ng, .string ds, .int .i64 ex, .string tx, .slice A2 n2 c2, .slice A1 n c1] 27)) wr) (fun i _ => n - (intOf i).toNat)
  case atStart => exact ⟨0, rfl, Nat.zero_le _, by simpa [JV.putL, JV.putF] using hP1, Went.refl _ _ _⟩
  case round =>
    obtain ⟨j, rfl, hj, hP, hW⟩ := hrel
    by_cases hlt : j < n
    · obtain ⟨cells, hbb⟩ := hP1.isB.blk
      have hRr := R_others hR1 hW.others hbb kFe_E
      obtain ⟨ad, c, x, A6, c6, A7, c7, he, hx, hcs, hM⟩ := at_FM hRr j (by rw [hn.out]; exact hlt)
      injection he with he1 he2 he3
      subst he1
      unfold JV.cells at hcs hM
      obtain ⟨q0, q1, q2, q3, q4, q5, q6, q7, q8, _⟩ := hcs
      replace hx := Aside0.mk hx
      replace hbb := Aside0.mk hbb
      clear he2 he3
      have hxm : x ∈ xs := List.mem_of_getElem? hx.out
      have hnx := hok x hxm
      have hwx := wt_memF hxm
      have hix := ints_memF hxm hin
      have hwj := wtF_take hx.out
      have hpl := putF_len (xs.take j) 123
      have hb3 := (Below.refl _ wr).alloc (Nat.le_refl _) (.cells #[.string x.name, .int .i64 x.value.kind, .bool x.value.truth, .bool x.value.neg, .string x.value.digits, .int .i64 x.value.exp, .string x.value.text, .slice A6 x.value.list.length c6, .slice A7 x.value.fields.length c7] 69)
      have hbx3 := heap_alloc_new wr (.cells #[.string x.name, .int .i64 x.value.kind, .bool x.value.truth, .bool x.value.neg, .string x.value.digits, .int .i64 x.value.exp, .string x.value.text, .slice A6 x.value.list.length c6, .slice A7 x.value.fields.length c7] 69)
      have hP3 := hP.below hb3
      have hW3 := Aside0.mk (hW.trans (hP.went hb3))
      have hM3 := kV.M_mono (fun _ _ => trivial) (Kd.M_below hM hb3)
      have hne : wr.heap.size ≠ b := by have := hP.isB.lt; omega
      obtain ⟨cells3, hbb3⟩ := hP3.isB.blk
      replace hbb3 := Aside0.mk hbb3
      replace hM3 := Aside0.mk hM3
      replace hbx3 := Aside0.mk hbx3
      replace hnx := Aside0.mk hnx
      replace hR1 := Aside0.mk hR1
      clear hM hRr hb3 hxm
      go_wp2_with (first
        | (go_at_call 64; refine (byte_p hP4 58 (by omega) (by omega) (by simp only [List.length_append, List.length_cons, List.length_nil]; have := quoted_len x.name; omega)).mono ?_; rintro e w5 ⟨rfl, hP5, hW5⟩; have hbx6 := hW5.others _ _ hbx5.out (by intro e; injection e with e; exact hne e) (by intro c fz e; injection e with _ e; revert e; decide); clear hc5; have hc5 := cellAll hbx6; have hM5 := M_others hM4.out hW5.others hbb5.out kV_E; replace hM5 := Aside0.mk hM5; have hcg := cellAll hP5.put; unfold clo at hcg; clear hbx6)
        | (go_at_call 64; refine (byte_p hP3 _ (Int.natCast_nonneg _) (byte_le _) (by rw [List.length_append]; omega)).mono ?_; rintro e w2 ⟨rfl, hP2, hW2⟩; rw [byte_back, brk] at hP2; have hbx := hW2.others _ _ hbx3.out (by intro e; injection e with e; exact hne e) (by intro c fz e; injection e with _ e; revert e; decide); have hc5 := cellAll hbx; replace hbx := Aside0.mk hbx; have hM2 := M_others hM3.out hW2.others hbb3.out kV_E; obtain ⟨cells4, hbb4⟩ := hP2.isB.blk; replace hbb4 := Aside0.mk hbb4; replace hM2 := Aside0.mk hM2)
        | (go_at_call 63; refine (quoted_p hP2 x.name (by simp only [List.length_append, List.length_cons, List.length_nil]; omega)).mono ?_; rintro e w3 ⟨rfl, hP4, hW4⟩; have hbx5 := hW4.others _ _ hbx.out (by intro e; injection e with e; exact hne e) (by intro c fz e; injection e with _ e; revert e; decide); clear hc5; have hc5 := cellAll hbx5; replace hbx5 := Aside0.mk hbx5; have hM4 := M_others hM2.out hW4.others hbb4.out kV_E; obtain ⟨cells5, hbb5⟩ := hP4.isB.blk; replace hbb5 := Aside0.mk hbb5; replace hM4 := Aside0.mk hM4)
        | (go_at_call 60; refine (hnx.out B b g w0 _ w5 _ hP5 hM5.out (by omega) hix (by simp only [List.length_append, List.length_cons, List.length_nil]; have := quoted_len x.name; omega)).mono ?_; rintro e w6 ⟨rfl, hP6, hW6⟩))
      go_roundw
      case rel =>
        refine ⟨j + 1, by go_num, by omega, ?_, (((hW3.out.trans hW2).trans hW4).trans hW5).trans hW6⟩
        have hlj : j < xs.length := by rw [hn.out]; exact hlt
        have hx2 := hx.out
        rw [List.take_add_one, hx2, Option.toList_some, putF_snoc, tookF j hlj]
        simpa using hP6
      case measure => simp [intOf]; omega
    · obtain rfl : j = n := by omega
      have hbxr := hW.others _ _ hbx.out (by intro e; injection e with e; have := h.isB.lt; omega) (by intro c fz e; injection e with _ e; revert e; decide)
      have hc0 := cellAll hbxr
      have htk : xs.take j = xs := by rw [← hn.out, List.take_length]
      rw [htk] at hP
      have hpl := putF_len xs 123
      clear hbxr
      go_wp2_with (go_at_call 61; refine (string_p hP _ (by have := brk2_size 123 125 j; rw [List.length_append]; omega)).mono ?_; rintro e w4 ⟨rfl, hP4, hW4⟩; rw [brk2] at hP4)
      all_goals go_end0
      all_goals refine ⟨rfl, ?_, (hw1.trans hW).trans hW4⟩
      all_goals rw [← List.append_assoc]
      all_goals (first | (rw [if_pos (by assumption)] at hP4; exact hP4) | (rw [if_neg (by assumption)] at hP4; exact hP4) | (rw [if_neg (by omega)] at hP4; exact hP4) | (rw [if_pos (by omega)] at hP4; exact hP4))

/-- **put.** -/
theorem put_step (x : JV) (hl : ∀ y ∈ x.list, PutOK y) (hf : ∀ f ∈ x.fields, PutOK f.value) : PutOK x := by
  intro B b g w0 acc w cs h hM hwt hin hlen
  obtain ⟨l, f, rfl, hRl, hRf⟩ := kV_openM hM
  obtain ⟨k, t, ng, ds, ex, tx, xs, fs⟩ := x
  simp only [JV.list, JV.fields] at *
  obtain ⟨A1, c1, el⟩ := Kd.R_slice hRl
  obtain ⟨A2, c2, ef⟩ := Kd.R_slice hRf
  rw [JV.wt] at hwt hlen
  rw [JV.ints] at hin
  obtain ⟨hik, hie, hil, hif⟩ := hin
  unfold JV.cells
  simp only [JV.kind, JV.truth, JV.neg, JV.digits, JV.exp, JV.text]
  rw [JV.put]
  by_cases h1 : k = 1
  · rw [if_pos h1]; subst h1; subst el; subst ef
    exact put_true B b g w0 acc w t ng ds tx ex A1 A2 _ c1 _ c2 h (by omega)
  rw [if_neg h1]
  by_cases h2 : k = 2
  · rw [if_pos h2]; subst h2; subst el; subst ef
    exact put_num B b g w0 acc w t ng ds tx ex A1 A2 _ c1 _ c2 h (by omega) hie.1 hie.2 (by omega)
  rw [if_neg h2]
  by_cases h3 : k = 3
  · rw [if_pos h3]; subst h3; subst el; subst ef
    exact put_text B b g w0 acc w t ng ds tx ex A1 A2 _ c1 _ c2 h (by omega)
  rw [if_neg h3]
  by_cases h4 : k = 4
  · rw [if_pos h4]; subst h4; subst ef
    exact put_list B b g w0 acc w t ng ds tx ex l xs A2 _ c2 h hRl hl (by omega) hil (by omega)
  rw [if_neg h4]
  by_cases h5 : k = 5
  · rw [if_pos h5]; subst h5; subst el
    exact put_fields B b g w0 acc w t ng ds tx ex f fs A1 _ c1 h hRf hf (by omega) hif (by omega)
  rw [if_neg h5]
  subst el; subst ef
  exact put_rest B b g w0 acc w k t ng ds tx ex A1 A2 _ c1 _ c2 h (by omega) h1 h2 h3 h4 h5
theorem put_all : ∀ (n : Nat) (x : JV), x.wt ≤ n → PutOK x
  | 0, .mk k t ng ds ex tx l f, h => by rw [JV.wt] at h; omega
  | n + 1, .mk k t ng ds ex tx l f, h => by
    rw [JV.wt] at h
    exact put_step _ (fun y hy => put_all n y (by have := wt_memL hy; simp only [JV.list] at this; omega)) (fun g hg => put_all n _ (by have := wt_memF hg; simp only [JV.fields] at this; omega))
theorem put_any (x : JV) : PutOK x := put_all _ x (Nat.le_refl _)
end Go.Proofs.YtkdeleafgailhaaGreatDoor
end
