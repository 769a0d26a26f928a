/- api.Value as a Lean type, and what its cells say in memory (a Kd: read, made), opened and put together. What the functions of packages dec and json compute, as plain Lean functions over JV: normal forms, printing, weights. -/
import Derived.Test.YtkdeleafgailhaaGreatDoorProg
import Derived.Test.YtkdeleafgailhaaGreatDoorN1
import Derived.Lib.MapU
import Derived.Lib.ValidU
import Derived.Lib.TrimByte
import Derived.Lib.ItoaNum
import Derived.Lib.Bytealg
import Derived.Lib.RuneBytes
section
set_option linter.unusedVariables false
set_option linter.unusedSimpArgs false
mutual
inductive Go.Proofs.YtkdeleafgailhaaGreatDoor.JV where
  | mk (kind : Int) (truth neg : Bool) (digits : ByteArray) (exp : Int) (text : ByteArray) (list : List Go.Proofs.YtkdeleafgailhaaGreatDoor.JV) (fields : List Go.Proofs.YtkdeleafgailhaaGreatDoor.JF)
inductive Go.Proofs.YtkdeleafgailhaaGreatDoor.JF where
  | mk (name : ByteArray) (value : Go.Proofs.YtkdeleafgailhaaGreatDoor.JV)
end
namespace Go.Proofs.YtkdeleafgailhaaGreatDoor
open Go.RowKit Go.Proofs.YtkdeleafgailhaaGreatDoorW.PrintWords
namespace JV
def kind : JV → Int | .mk k _ _ _ _ _ _ _ => k
def truth : JV → Bool | .mk _ t _ _ _ _ _ _ => t
def neg : JV → Bool | .mk _ _ n _ _ _ _ _ => n
def digits : JV → ByteArray | .mk _ _ _ d _ _ _ _ => d
def exp : JV → Int | .mk _ _ _ _ e _ _ _ => e
def text : JV → ByteArray | .mk _ _ _ _ _ t _ _ => t
def list : JV → List JV | .mk _ _ _ _ _ _ l _ => l
def fields : JV → List JF | .mk _ _ _ _ _ _ _ l => l
end JV
namespace JF
def name : JF → ByteArray | .mk n _ => n
def value : JF → JV | .mk _ v => v
end JF
/-- The zero value. -/
def JV.nul : JV := .mk 0 false false ⟨#[]⟩ 0 ⟨#[]⟩ [] []
def JF.nul : JF := .mk ⟨#[]⟩ JV.nul
def kFof (d : Kd JV) : Kd JF := Kd.iso (Kd.pair Kd.string d) (fun f : JF => (f.name, f.value))
def FV (d : Kd JV) : Kd JV := Kd.iso (Kd.pair (Kd.int .i64) (Kd.pair Kd.bool (Kd.pair Kd.bool (Kd.pair Kd.string (Kd.pair (Kd.int .i64) (Kd.pair Kd.string (Kd.pair (Kd.slice 27 d) (Kd.slice 69 (kFof d))))))))) (fun x : JV => (x.kind, x.truth, x.neg, x.digits, x.exp, x.text, x.list, x.fields))
theorem monoF : Kd.Mono kFof := Kd.mono_iso _ (Kd.mono_pair (Kd.mono_const _) Kd.mono_id)
theorem monoV : Kd.Mono FV := Kd.mono_iso _ (Kd.mono_pair (Kd.mono_const _) (Kd.mono_pair (Kd.mono_const _) (Kd.mono_pair (Kd.mono_const _) (Kd.mono_pair (Kd.mono_const _) (Kd.mono_pair (Kd.mono_const _) (Kd.mono_pair (Kd.mono_const _) (Kd.mono_pair (Kd.mono_slice _ Kd.mono_id) (Kd.mono_slice _ monoF))))))))
def EV : List Nat := [27, 69]
theorem subF : Kd.Sub kFof EV := Kd.sub_iso _ (Kd.sub_pair (Kd.sub_const _ (by intro q h; cases h)) Kd.sub_id)
theorem subV : Kd.Sub FV EV := Kd.sub_iso _ (Kd.sub_pair (Kd.sub_const _ (by intro q h; cases h)) (Kd.sub_pair (Kd.sub_const _ (by intro q h; cases h)) (Kd.sub_pair (Kd.sub_const _ (by intro q h; cases h)) (Kd.sub_pair (Kd.sub_const _ (by intro q h; cases h)) (Kd.sub_pair (Kd.sub_const _ (by intro q h; cases h)) (Kd.sub_pair (Kd.sub_const _ (by intro q h; cases h)) (Kd.sub_pair (Kd.sub_slice _ (by decide) Kd.sub_id) (Kd.sub_slice _ (by decide) subF))))))))
theorem szV : ∀ n, (Kd.upto FV 8 EV n).sz = 8 := Kd.upto_sz (fun _ => rfl)
/-- api.Value -/
def kV : Kd JV := Kd.fix FV 8 EV szV (Kd.upto_E subV)
/-- api.Value, nested at most n deep -/
def kVn (n : Nat) : Kd JV := Kd.upto FV 8 EV n
/-- api.Field -/
def kF : Kd JF := kFof kV
theorem szF (n : Nat) : (kFof (kVn n)).sz = 9 := by show 1 + (kVn n).sz = 9; rw [show (kVn n).sz = 8 from szV n]
theorem kV_sz : kV.sz = 8 := rfl
theorem kF_sz : kF.sz = 9 := rfl
/-- The cells of a value, its two slices given. -/
def JV.cells (x : JV) (l f : Value) : List Value := [.int .i64 x.kind, .bool x.truth, .bool x.neg, .string x.digits, .int .i64 x.exp, .string x.text, l, f]
theorem kVn_open {n : Nat} {w : World} {x : JV} {cs : List Value} (h : (kVn (n + 1)).K w x cs) : ∃ A c B d, cs = x.cells (.slice A x.list.length c) (.slice B x.fields.length d) ∧ x.list.length ≤ c ∧ (kVn n).C w A x.list.length x.list ∧ x.fields.length ≤ d ∧ (kFof (kVn n)).C w B x.fields.length x.fields := by
  obtain ⟨_, _, rfl, rfl, _, _, rfl, rfl, _, _, rfl, rfl, _, _, rfl, rfl, _, _, rfl, rfl, _, _, rfl, rfl, _, _, rfl, ⟨A, c, rfl, hl, hr⟩, ⟨B, d, rfl, hl', hr'⟩⟩ := h
  exact ⟨A, c, B, d, rfl, hl, hr, hl', hr'⟩
theorem kVn_mk {n : Nat} {w : World} {x : JV} {A : Option Addr} {c : Nat} {B : Option Addr} {d : Nat} (hl : x.list.length ≤ c) (hr : (kVn n).C w A x.list.length x.list) (hl' : x.fields.length ≤ d) (hr' : (kFof (kVn n)).C w B x.fields.length x.fields) : (kVn (n + 1)).K w x (x.cells (.slice A x.list.length c) (.slice B x.fields.length d)) :=
  ⟨[_], _, rfl, rfl, [_], _, rfl, rfl, [_], _, rfl, rfl, [_], _, rfl, rfl, [_], _, rfl, rfl, [_], _, rfl, rfl, [_], _, rfl, ⟨A, c, rfl, hl, hr⟩, ⟨B, d, rfl, hl', hr'⟩⟩
theorem kVn_openM {n : Nat} {w : World} {base : Nat} {ok : Nat → Prop} {x : JV} {cs : List Value} (h : (kVn (n + 1)).M w base ok x cs) : ∃ l f, cs = x.cells l f ∧ (kVn n).R 27 w base ok l x.list ∧ (kFof (kVn n)).R 69 w base ok f x.fields := by
  obtain ⟨_, _, rfl, rfl, _, _, rfl, rfl, _, _, rfl, rfl, _, _, rfl, rfl, _, _, rfl, rfl, _, _, rfl, rfl, _, _, rfl, ⟨A, rfl, hr⟩, ⟨B, rfl, hr'⟩⟩ := h
  exact ⟨A, B, rfl, hr, hr'⟩
theorem kVn_mkM {n : Nat} {w : World} {base : Nat} {ok : Nat → Prop} {x : JV} {l f : Value} (hr : (kVn n).R 27 w base ok l x.list) (hr' : (kFof (kVn n)).R 69 w base ok f x.fields) : (kVn (n + 1)).M w base ok x (x.cells l f) :=
  ⟨[_], _, rfl, rfl, [_], _, rfl, rfl, [_], _, rfl, rfl, [_], _, rfl, rfl, [_], _, rfl, rfl, [_], _, rfl, rfl, [_], _, rfl, ⟨l, rfl, hr⟩, ⟨f, rfl, hr'⟩⟩
theorem kVn_le {n m : Nat} (h : n ≤ m) {w : World} {x : JV} {cs : List Value} (hk : (kVn n).K w x cs) : (kVn m).K w x cs := Kd.upto_K_le monoV szV h hk
theorem kVn_leM {n m : Nat} (h : n ≤ m) {w : World} {base : Nat} {ok : Nat → Prop} {x : JV} {cs : List Value} (hk : (kVn n).M w base ok x cs) : (kVn m).M w base ok x cs := Kd.upto_M_le monoV szV h hk
theorem kV_fixF {n : Nat} {w : World} {A : Option Addr} {m : Nat} {xs : List JF} (h : (kFof (kVn n)).C w A m xs) : kF.C w A m xs := Kd.C_imp (d' := kF) (szF n) (fun w x cs hp => monoF.K (kVn n) kV (szV n) (fun _ _ _ h => ⟨n, h⟩) w x cs hp) h
theorem kV_fixRF {n e : Nat} {w : World} {base : Nat} {ok : Nat → Prop} {v : Value} {xs : List JF} (h : (kFof (kVn n)).R e w base ok v xs) : kF.R e w base ok v xs := Kd.R_imp (d' := kF) (szF n) (fun w base ok x cs hp => monoF.M (kVn n) kV (szV n) (fun _ _ _ _ _ h => ⟨n, h⟩) w base ok x cs hp) h
theorem kV_open {w : World} {x : JV} {cs : List Value} (h : kV.K w x cs) : ∃ A c B d, cs = x.cells (.slice A x.list.length c) (.slice B x.fields.length d) ∧ x.list.length ≤ c ∧ kV.C w A x.list.length x.list ∧ x.fields.length ≤ d ∧ kF.C w B x.fields.length x.fields := by
  obtain ⟨n, h⟩ := h
  cases n with
  | zero => exact h.elim
  | succ n =>
    obtain ⟨A, c, B, d, e, hl, hr, hl', hr'⟩ := kVn_open h
    exact ⟨A, c, B, d, e, hl, Kd.fix_C hr, hl', kV_fixF hr'⟩
theorem kV_openM {w : World} {base : Nat} {ok : Nat → Prop} {x : JV} {cs : List Value} (h : kV.M w base ok x cs) : ∃ l f, cs = x.cells l f ∧ kV.R 27 w base ok l x.list ∧ kF.R 69 w base ok f x.fields := by
  obtain ⟨n, h⟩ := h
  cases n with
  | zero => exact h.elim
  | succ n =>
    obtain ⟨l, f, e, hr, hr'⟩ := kVn_openM h
    exact ⟨l, f, e, Kd.fix_R hr, kV_fixRF hr'⟩
/-- The fields' rows back to a bound. -/
theorem kF_R_back {e : Nat} {w : World} {base : Nat} {ok : Nat → Prop} {v : Value} {xs : List JF} (h : kF.R e w base ok v xs) : ∃ n, (kFof (kVn n)).R e w base ok v xs := by
  obtain ⟨h0, inner, ho, hr⟩ := h
  have hle : ∀ n m (p : JF) c, n ≤ m → (kFof (kVn n)).M w base (fun k => ok k ∧ some k ≠ v.ownBlock) p c → (kFof (kVn m)).M w base (fun k => ok k ∧ some k ≠ v.ownBlock) p c :=
    fun n m p c hnm hp => monoF.M (kVn n) (kVn m) (by rw [show (kVn n).sz = 8 from szV n, show (kVn m).sz = 8 from szV m]) (fun _ _ _ _ _ h => kVn_leM hnm h) _ _ _ _ _ hp
  obtain ⟨N, hN⟩ := Kd.reps_bounded (R := fun n p c => (kFof (kVn n)).M w base (fun k => ok k ∧ some k ≠ v.ownBlock) p c) hle
    (hr.imp_ (fun p c hp => by
      obtain ⟨c0, c1, e1, h0, n, h1⟩ := hp
      exact ⟨n, c0, c1, e1, h0, h1⟩))
  refine ⟨N, h0, inner, ?_, ?_⟩
  · rw [szF N]; exact ho
  · rw [szF N]; exact hN
theorem kFof_le_R {n m e : Nat} (hnm : n ≤ m) {w : World} {base : Nat} {ok : Nat → Prop} {v : Value} {xs : List JF} (h : (kFof (kVn n)).R e w base ok v xs) : (kFof (kVn m)).R e w base ok v xs :=
  Kd.R_imp (by rw [szF n, szF m]) (fun w base ok x cs hp => monoF.M (kVn n) (kVn m) (by rw [show (kVn n).sz = 8 from szV n, show (kVn m).sz = 8 from szV m]) (fun _ _ _ _ _ h => kVn_leM hnm h) w base ok x cs hp) h
theorem kV_mkM {w : World} {base : Nat} {ok : Nat → Prop} {x : JV} {l f : Value} (hr : kV.R 27 w base ok l x.list) (hr' : kF.R 69 w base ok f x.fields) : kV.M w base ok x (x.cells l f) := by
  obtain ⟨n, hn⟩ := Kd.fix_R_back monoV hr
  obtain ⟨m, hm⟩ := kF_R_back hr'
  exact ⟨max n m + 1, kVn_mkM (Kd.upto_R_le monoV szV (Nat.le_max_left _ _) hn) (kFof_le_R (Nat.le_max_right _ _) hm)⟩

/-! ### elements of rows that are read -/
theorem kF_open {w : World} {x : JF} {cs : List Value} (h : kF.K w x cs) : ∃ A c B d, cs = .string x.name :: x.value.cells (.slice A x.value.list.length c) (.slice B x.value.fields.length d) ∧ x.value.list.length ≤ c ∧ kV.C w A x.value.list.length x.value.list ∧ x.value.fields.length ≤ d ∧ kF.C w B x.value.fields.length x.value.fields := by
  obtain ⟨c0, c1, rfl, rfl, h⟩ := h
  obtain ⟨A, c, B, d, rfl, h1, h2, h3, h4⟩ := kV_open h
  exact ⟨A, c, B, d, rfl, h1, h2, h3, h4⟩
/-- The cells of element k, told one by one. -/
def CellsAt (w : World) (p : Addr) : Nat → List Value → Prop
  | _, [] => True
  | 0, c :: cs => w.cell? p = some c ∧ CellsAt w p 1 cs
  | j + 1, c :: cs => w.cell? ⟨p.block, p.off + (j + 1), none⟩ = some c ∧ CellsAt w p (j + 2) cs
theorem cellsAt_of {w : World} {ad : Addr} {m : Nat} {cs : List Value} : ∀ (j : Nat) (l : List Value), (∀ i u, l[i]? = some u → w.cell? (ad.add (m + (j + i))) = some u) → CellsAt w (ad.add m) j l
  | _, [], _ => trivial
  | 0, c :: l, h => ⟨h 0 c rfl, cellsAt_of (cs := cs) 1 l (fun i u hi => by rw [show m + (1 + i) = m + (0 + (i + 1)) by omega]; exact h (i + 1) u hi)⟩
  | j + 1, c :: l, h => ⟨by rw [← add_field _ _ (j + 1) (by omega)]; exact h 0 c rfl, cellsAt_of (cs := cs) (j + 2) l (fun i u hi => by rw [show m + (j + 2 + i) = m + (j + 1 + (i + 1)) by omega]; exact h (i + 1) u hi)⟩
theorem at_V {w : World} {A : Option Addr} {n : Nat} {xs : List JV} (h : kV.C w A n xs) (k : Nat) (hk : k < n) : ∃ ad x A6 c6 A7 c7, A = some ad ∧ xs[k]? = some x ∧ CellsAt w (ad.add (k * 8)) 0 (x.cells (.slice A6 x.list.length c6) (.slice A7 x.fields.length c7)) ∧
    x.list.length ≤ c6 ∧ kV.C w A6 x.list.length x.list ∧ x.fields.length ≤ c7 ∧ kF.C w A7 x.fields.length x.fields := by
  obtain ⟨ad, c, e, _, hK, hc0⟩ := Kd.C_get h JV.nul k (by omega) (by omega)
  rw [Int.toNat_natCast] at hK hc0
  have hl : k < xs.length := by rw [h.1]; exact hk
  obtain ⟨A6, c6, A7, c7, rfl, h1, h2, h3, h4⟩ := kV_open hK
  have hx : xs[k]? = some (xs.getD k JV.nul) := by simp [hl]
  exact ⟨ad, _, A6, c6, A7, c7, e, hx, cellsAt_of (cs := []) 0 _ (fun i u hi => by rw [Nat.zero_add]; exact hc0 i u hi), h1, h2, h3, h4⟩
theorem at_F {w : World} {A : Option Addr} {n : Nat} {xs : List JF} (h : kF.C w A n xs) (k : Nat) (hk : k < n) : ∃ ad x A6 c6 A7 c7, A = some ad ∧ xs[k]? = some x ∧ CellsAt w (ad.add (k * 9)) 0 (.string x.name :: x.value.cells (.slice A6 x.value.list.length c6) (.slice A7 x.value.fields.length c7)) ∧
    x.value.list.length ≤ c6 ∧ kV.C w A6 x.value.list.length x.value.list ∧ x.value.fields.length ≤ c7 ∧ kF.C w A7 x.value.fields.length x.value.fields := by
  obtain ⟨ad, c, e, _, hK, hc0⟩ := Kd.C_get h JF.nul k (by omega) (by omega)
  rw [Int.toNat_natCast] at hK hc0
  have hl : k < xs.length := by rw [h.1]; exact hk
  obtain ⟨A6, c6, A7, c7, rfl, h1, h2, h3, h4⟩ := kF_open hK
  have hx : xs[k]? = some (xs.getD k JF.nul) := by simp [hl]
  exact ⟨ad, _, A6, c6, A7, c7, e, hx, cellsAt_of (cs := []) 0 _ (fun i u hi => by rw [Nat.zero_add]; exact hc0 i u hi), h1, h2, h3, h4⟩
theorem kF_mkK {w : World} {x : JF} {A B : Option Addr} {c d : Nat} (h1 : x.value.list.length ≤ c) (h2 : kV.C w A x.value.list.length x.value.list) (h3 : x.value.fields.length ≤ d) (h4 : kF.C w B x.value.fields.length x.value.fields) : kF.K w x (.string x.name :: x.value.cells (.slice A x.value.list.length c) (.slice B x.value.fields.length d)) := by
  refine ⟨[.string x.name], _, rfl, rfl, ?_⟩
  obtain ⟨n, hn⟩ := Kd.fix_C_back monoV h2
  have hb : ∃ m, (kFof (kVn m)).C w B x.value.fields.length x.value.fields := by
    rcases Nat.eq_zero_or_pos x.value.fields.length with hz | hpos
    · rw [hz] at h4 ⊢
      exact ⟨0, h4.1, h4.2.1, fun hp => absurd hp (Nat.lt_irrefl 0)⟩
    · obtain ⟨ad, e, hc⟩ := h4.2.2 hpos
      have hle : ∀ n m (p : JF) c, n ≤ m → (kFof (kVn n)).K w p c → (kFof (kVn m)).K w p c :=
        fun n m p c hnm hp => monoF.K (kVn n) (kVn m) (by rw [show (kVn n).sz = 8 from szV n, show (kVn m).sz = 8 from szV m]) (fun _ _ _ h => kVn_le hnm h) _ _ _ hp
      obtain ⟨N, hN⟩ := Kd.bounded (P := fun n j => ∀ p, x.value.fields[j]? = some p → ∃ c, c.length = 9 ∧ (kFof (kVn n)).K w p c ∧ ∀ i u, c[i]? = some u → w.cell? (ad.add (j * 9 + i)) = some u)
        (fun n n' j hnm hp p hj => by
          obtain ⟨c, h1, h2, h3⟩ := hp p hj
          exact ⟨c, h1, hle _ _ _ _ hnm h2, h3⟩) x.value.fields.length
        (fun j hj => by
          obtain ⟨c, h1, ⟨c0, c1, e1, h0, n, h2⟩, h3⟩ := hc j _ (List.getElem?_eq_getElem hj)
          refine ⟨n, fun p hp => ?_⟩
          rw [List.getElem?_eq_getElem hj] at hp
          injection hp with hp
          rw [← hp]
          exact ⟨c, h1, ⟨c0, c1, e1, h0, h2⟩, h3⟩)
      refine ⟨N, h4.1, h4.2.1, fun _ => ⟨ad, e, fun j p hj => ?_⟩⟩
      rw [szF N]
      exact hN j (List.getElem?_eq_some_iff.1 hj).1 p hj
  obtain ⟨m, hm⟩ := hb
  refine ⟨max n m + 1, kVn_mk h1 (Kd.upto_C_le monoV szV (Nat.le_max_left _ _) hn) h3 ?_⟩
  exact Kd.C_imp (by rw [szF m, szF (max n m)]) (fun w x cs hp => monoF.K (kVn m) (kVn (max n m)) (by rw [show (kVn m).sz = 8 from szV m, show (kVn (max n m)).sz = 8 from szV _]) (fun _ _ _ h => kVn_le (Nat.le_max_right _ _) h) _ _ _ hp) hm
theorem kV_mkK {w : World} {x : JV} {A B : Option Addr} {c d : Nat} (h1 : x.list.length ≤ c) (h2 : kV.C w A x.list.length x.list) (h3 : x.fields.length ≤ d) (h4 : kF.C w B x.fields.length x.fields) : kV.K w x (x.cells (.slice A x.list.length c) (.slice B x.fields.length d)) := by
  obtain ⟨c0, c1, he, rfl, h⟩ := kF_mkK (x := .mk ⟨#[]⟩ x) h1 h2 h3 h4
  injection he with _ he
  have he' : x.cells (.slice A x.list.length c) (.slice B x.fields.length d) = c1 := he
  rw [he']
  exact h
end Go.Proofs.YtkdeleafgailhaaGreatDoor
end
section
set_option linter.unusedVariables false
namespace Go.Proofs.YtkdeleafgailhaaGreatDoor
open Go

/-! ### dec -/
def keepDigit (c : Int) : Int := if c < 48 then -1 else if 57 < c then -1 else c
def decBare (s : ByteArray) : ByteArray := ⟨(Lib.trimLeftB (Lib.mapD keepDigit s.data.toList) 48).toArray⟩
def decShort (s : ByteArray) : ByteArray := ⟨(Lib.trimRightB s.data.toList 48).toArray⟩
structure Dec where
  neg : Bool
  digits : ByteArray
  exp : Int
def Dec.zero : Dec := ⟨false, ⟨#[]⟩, 0⟩
/-- How many noughts stand at the end. -/
def decDrop (s : ByteArray) : Int := (s.size : Int) - ((decShort s).size : Int)
def decForm (neg : Bool) (digits : ByteArray) (exp : Int) : Dec × Bool :=
  if (decBare digits).size = 0 then (Dec.zero, true)
  else if 9999 - decDrop (decBare digits) < exp then (Dec.zero, false)
  else if exp < -9999 - decDrop (decBare digits) then (Dec.zero, false)
  else (⟨neg, decShort (decBare digits), exp + decDrop (decBare digits)⟩, true)
def decNorm (neg : Bool) (digits : ByteArray) (exp : Int) : Dec := (decForm neg digits exp).1
def decText (neg : Bool) (digits : ByteArray) (exp : Int) : List UInt8 :=
  if (decNorm neg digits exp).digits.size = 0 then [48]
  else (if (decNorm neg digits exp).neg = true then [45] else []) ++ (decNorm neg digits exp).digits.data.toList ++ (if (decNorm neg digits exp).exp = 0 then [] else 101 :: Lib.itoa (decNorm neg digits exp).exp)

/-! ### json: texts -/
/-- A text's letters, each in UTF-8, from place pos on (at most 'fuel' of them). -/
def cleanFrom (s : ByteArray) : Nat → Nat → List UInt8
  | 0, _ => []
  | fuel + 1, pos => if pos < s.size then Lib.encodeRune (Utf8.decode s pos).1 ++ cleanFrom s fuel (pos + (Utf8.decode s pos).2) else []
def clean (s : ByteArray) : ByteArray := if Lib.validD s.data.toList = true then s else ⟨(cleanFrom s s.size 0).toArray⟩
def hexd (n : Nat) : UInt8 := if n < 10 then (48 + n).toUInt8 else (87 + n).toUInt8
def quoteRune (r : Nat) : List UInt8 :=
  if r = 34 then 92 :: Lib.encodeRune r
  else if r = 92 then 92 :: Lib.encodeRune r
  else if r = 8 then [92, 98]
  else if r = 9 then [92, 116]
  else if r = 10 then [92, 110]
  else if r = 12 then [92, 102]
  else if r = 13 then [92, 114]
  else if r < 32 then [92, 117, 48, 48, hexd (r / 16), hexd (r % 16)]
  else Lib.encodeRune r
def quoteFrom (s : ByteArray) : Nat → Nat → List UInt8
  | 0, _ => []
  | fuel + 1, pos => if pos < s.size then quoteRune (Utf8.decode s pos).1 ++ quoteFrom s fuel (pos + (Utf8.decode s pos).2) else []
def quoted (s : ByteArray) : List UInt8 := 34 :: (quoteFrom s s.size 0 ++ [34])

/-! ### json: the one form -/
def lessB (a b : ByteArray) : Bool := decide (Lib.compareBytes a.data.toList b.data.toList < 0)
def sameB (a b : ByteArray) : Bool := decide (Lib.compareBytes a.data.toList b.data.toList = 0)
/-- Fields in order, and one more, unless there is one of its name. -/
def insF (out : List JF) (name : ByteArray) (v : JV) : List JF :=
  if out.any (fun f => sameB f.name name) = true then out
  else out.takeWhile (fun f => lessB f.name name) ++ (JF.mk name v :: out.dropWhile (fun f => lessB f.name name))
mutual
def JV.norm : JV → JV
  | .mk k t n d e s l f =>
    if k = 1 then .mk 1 t false ⟨#[]⟩ 0 ⟨#[]⟩ [] []
    else if k = 2 then .mk 2 false (decNorm n d e).neg (decNorm n d e).digits (decNorm n d e).exp ⟨#[]⟩ [] []
    else if k = 3 then .mk 3 false false ⟨#[]⟩ 0 (clean s) [] []
    else if k = 4 then .mk 4 false false ⟨#[]⟩ 0 ⟨#[]⟩ (JV.normL l) []
    else if k = 5 then .mk 5 false false ⟨#[]⟩ 0 ⟨#[]⟩ [] (JV.normF f [])
    else JV.nul
def JV.normL : List JV → List JV
  | [] => []
  | x :: xs => x.norm :: JV.normL xs
def JV.normF : List JF → List JF → List JF
  | [], out => out
  | .mk nm v :: fs, out => JV.normF fs (insF out (clean nm) v.norm)
end

/-! ### json: printing -/
mutual
def JV.put : JV → List UInt8
  | .mk k t n d e s l f =>
    if k = 1 then (if t = true then [116, 114, 117, 101] else [102, 97, 108, 115, 101])
    else if k = 2 then decText n d e
    else if k = 3 then quoted s
    else if k = 4 then JV.putL 91 l ++ (if l.length = 0 then [91, 93] else [93])
    else if k = 5 then JV.putF 123 f ++ (if f.length = 0 then [123, 125] else [125])
    else [110, 117, 108, 108]
def JV.putL : UInt8 → List JV → List UInt8
  | _, [] => []
  | c, x :: xs => c :: (x.put ++ JV.putL 44 xs)
def JV.putF : UInt8 → List JF → List UInt8
  | _, [] => []
  | c, .mk nm v :: xs => c :: (quoted nm ++ (58 :: (v.put ++ JV.putF 44 xs)))
end
def JV.print (v : JV) : List UInt8 := v.norm.put

/-! ### weights -/
mutual
def JV.wt : JV → Nat
  | .mk _ _ _ d _ s l f => 1 + d.size + s.size + JV.wtL l + JV.wtF f
def JV.wtL : List JV → Nat
  | [] => 0
  | x :: xs => 1 + x.wt + JV.wtL xs
def JV.wtF : List JF → Nat
  | [] => 0
  | .mk nm v :: xs => 1 + nm.size + v.wt + JV.wtF xs
end
mutual
/-- Each int is one of 64 bits. -/
def JV.ints : JV → Prop
  | .mk k _ _ _ e _ l f => (-9223372036854775808 ≤ k ∧ k ≤ 9223372036854775807) ∧ (-9223372036854775808 ≤ e ∧ e ≤ 9223372036854775807) ∧ JV.intsL l ∧ JV.intsF f
def JV.intsL : List JV → Prop
  | [] => True
  | x :: xs => x.ints ∧ JV.intsL xs
def JV.intsF : List JF → Prop
  | [] => True
  | .mk _ v :: xs => v.ints ∧ JV.intsF xs
end
end Go.Proofs.YtkdeleafgailhaaGreatDoor
end
