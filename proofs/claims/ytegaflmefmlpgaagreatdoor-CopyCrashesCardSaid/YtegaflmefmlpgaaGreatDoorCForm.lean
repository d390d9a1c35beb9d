/-
  match.Form and the document's: which entries are of the form; copy.Encode. NEWPP
-/
import Derived.Test.YtegaflmefmlpgaaGreatDoorCPack
import Derived.Test.YtegaflmefmlpgaaGreatDoorCCodes
set_option maxRecDepth 20000
set_option linter.unusedVariables false
set_option linter.unusedSimpArgs false
namespace Go.VM
open Go Go.RowKit Go.Proofs

/-- An entry; of a history. -/
structure Dc where
  id : List UInt8
  tm : Int
  tx : List UInt8
  deriving DecidableEq
structure Op where
  t : Nat
  d : Dc
  deriving DecidableEq
def Dc.v (d : Dc) : List V := [.str (mkS d.id), .int .i64 d.tm, .str (mkS d.tx)]
def Op.v (o : Op) : List V := .int .u64 (o.t : Nat) :: o.d.v
theorem Op.v_len (o : Op) : o.v.length = 4 := rfl
structure Dc.Ok (d : Dc) : Prop where
  lo : -9223372036854775808 ≤ d.tm
  hi : d.tm < 9223372036854775808
  id : d.id.length ≤ 1000000000000000
  tx : d.tx.length ≤ 1000000000000000
structure Op.Ok (o : Op) : Prop where
  t : o.t < 18446744073709551616
  d : o.d.Ok
def idB (b : UInt8) : Bool := decide (33 ≤ b.toNat) && decide (b.toNat ≤ 126)
def Dc.form (d : Dc) : Bool := d.id.all idB && (decide (1 ≤ d.id.length) && decide (d.id.length ≤ 32) && decide (d.tx.length ≤ 512))

theorem all_take {s : List UInt8} {p : UInt8 → Bool} {j : Nat} {b : UInt8} (hb : s[j]? = some b) : (s.take (j + 1)).all p = ((s.take j).all p && p b) := by
  rw [List.take_add_one, hb, List.all_append]; simp
theorem all_false {s : List UInt8} {p : UInt8 → Bool} {j : Nat} {b : UInt8} (hb : s[j]? = some b) (h : p b = false) : s.all p = false := by
  cases hs : s.all p with
  | false => rfl
  | true =>
    have := List.all_eq_true.1 hs b (List.mem_of_getElem? hb)
    rw [h] at this; cases this

theorem form_runs {w0 : World} {S : St} {Q : AEnd → St → Prop} {d : Dc} (hd : d.Ok) (hQ : ∀ S', Keeps (fun _ => False) S S' → Q (.ret (.bool d.form)) S') : RSim Tryz.prog w0 n_match_Form [.agg d.v] S Q := by
  obtain ⟨id, tm, tx⟩ := d
  obtain ⟨_, _, hi, hx⟩ := hd
  simp only at hi hx
  simp only [Dc.v]
  refine RSim.run mixed k_match_Form ?_ (by simp)
  simp only [b_match_Form, go_sem]
  refine loop_rule RSim.le (k := id.length) (fun m fr S1 => ∃ j : Nat, m = id.length - j ∧ j ≤ id.length ∧ S1 = S.add (.cells [.str (mkS id), .int .i64 tm, .str (mkS tx)]) ∧ fr 1 = .ptr (some (S.n, 0)) ∧ fr 6 = .int .i64 id.length ∧ fr 7 = .int .i64 j ∧ (id.take j).all idB = true) ?_
    ⟨0, rfl, Nat.zero_le _, rfl, by simp only [go_sem], by simp only [go_sem], by simp only [go_sem, Int.natCast_zero], by simp⟩
  rintro m fr S1 ⟨j, hm, hj, hS, f1, f6, f7, ha⟩
  subst hm; subst hS
  simp only [l_match_Form_0, go_sem, f6, f7]
  refine wc_ite (b := decide ((j : Int) < id.length)) (by simp only [go_sem]) (fun hc => ?_) (fun hc => ?_)
  · have hj2 : j < id.length := by have := of_decide_eq_true hc; omega
    have hb : id[j]? = some (id[j]'hj2) := List.getElem?_eq_getElem hj2
    generalize id[j] = b at hb
    have hw : IntKind.i64.wrap ((j : Int) + 1) = ((j + 1 : Nat) : Int) := by rw [w64 (by omega) (by omega)]; omega
    have q1 : decide ((b.toNat : Int) ≤ 32) = !decide (33 ≤ b.toNat) := by
      rw [← decide_not]; exact decide_eq_decide.mpr (by omega)
    have q2 : decide ((b.toNat : Int) > 126) = !decide (b.toNat ≤ 126) := by
      rw [← decide_not]; exact decide_eq_decide.mpr (by omega)
    have ht := all_take (p := idB) hb
    have hf0 := all_false (p := idB) hb
    rw [ha, Bool.true_and] at ht
    have hib : idB b = (decide (33 ≤ b.toNat) && decide (b.toNat ≤ 126)) := rfl
    rw [hib] at ht hf0
    generalize decide (33 ≤ b.toNat) = c1 at *
    generalize decide (b.toNat ≤ 126) = c2 at *
    simp only [go_sem, f1, f6, f7, hb, q1, q2]
    have kk := (Keeps.refl (fun _ => False) S).add (.cells [.str (mkS id), .int .i64 tm, .str (mkS tx)])
    cases c1 <;> cases c2
    rotate_left 3
    all_goals simp only [go_sem, f1, f6, f7, hb, q1, q2]
    · refine wc_ite (b := false) (by simp only [go_sem] <;> rfl) (fun h => by cases h) (fun _ => ?_)
      simp only [go_sem, hw, f7]
      exact ⟨id.length - (j + 1), by omega, j + 1, rfl, by omega, f1, f6, rfl, ht⟩
    all_goals
      refine wc_ite (b := true) (by simp only [go_sem] <;> rfl) (fun _ => ?_) (fun h => by cases h)
      simp only [go_sem]
      have hf := hQ _ kk
      rw [show Dc.form ⟨id, tm, tx⟩ = false by unfold Dc.form; rw [hf0 rfl]; rfl] at hf
      exact hf
  · have hj2 : j = id.length := by have := of_decide_eq_false hc; omega
    subst hj2
    rw [List.take_length] at ha
    have kk := hQ _ ((Keeps.refl (fun _ => False) S).add (.cells [.str (mkS id), .int .i64 tm, .str (mkS tx)]))
    unfold Dc.form at kk
    rw [ha, Bool.true_and] at kk
    have q1 : decide ((id.length : Int) ≥ 1) = decide (1 ≤ id.length) := decide_eq_decide.mpr (by omega)
    have q2 : decide ((id.length : Int) ≤ 32) = decide (id.length ≤ 32) := decide_eq_decide.mpr (by omega)
    have q3 : decide ((tx.length : Int) ≤ 512) = decide (tx.length ≤ 512) := decide_eq_decide.mpr (by omega)
    generalize decide (1 ≤ id.length) = c1 at *
    generalize decide (id.length ≤ 32) = c2 at *
    generalize decide (tx.length ≤ 512) = c3 at *
    simp only [go_sem, s_match_Form_0, f1, q1, q2, q3]
    cases c1
    all_goals (try simp only [go_sem, f1, q1, q2, q3])
    all_goals (try ((exact kk); done))
    all_goals cases c2
    all_goals (try simp only [go_sem, f1, q1, q2, q3])
    all_goals (try ((exact kk); done))
    all_goals cases c3
    all_goals (try simp only [go_sem, f1, q1, q2, q3])
    all_goals (try ((exact kk); done))

def encB (o : Op) : List UInt8 := uvar o.t ++ textB o.d.id ++ uvar (zigN o.d.tm) ++ textB o.d.tx
theorem textB_len (s : List UInt8) : (textB s).length = (uvar s.length).length + s.length := by simp [textB]
theorem encode_runs {w0 : World} {S : St} {Q : AEnd → St → Prop} {o : Op} (ho : o.Ok) (hQ : o.d.form = true → ∀ S' v', BT S S' v' (encB o) → Keeps (fun _ => False) S S' → Q (.ret (.tup [v', .int .i64 0])) S')
    (hQ' : o.d.form = false → ∀ S', Keeps (fun _ => False) S S' → Q (.ret (.tup [.sl [] 0 1 .nil, .int .i64 3])) S') : RSim Tryz.prog w0 n_copy_Encode [.agg o.v] S Q := by
  obtain ⟨ht, hd⟩ := ho
  obtain ⟨t, ⟨id, tm, tx⟩⟩ := o
  have hdd := hd
  obtain ⟨d1, d2, _, _⟩ := hd
  simp only at ht d1 d2 hQ hQ' hdd
  simp only [Op.v, Dc.v]
  have hfb : ∀ b, Dc.form ⟨id, tm, tx⟩ = b → id.length ≤ 32 ∧ tx.length ≤ 512 ∨ b = false := fun b hb => by
    cases b with
    | false => exact .inr rfl
    | true =>
      unfold Dc.form at hb
      simp only [Bool.and_eq_true, decide_eq_true_eq] at hb
      exact .inl ⟨hb.2.1.2, hb.2.2⟩
  have k0 := (Keeps.refl (fun _ => False) S).add (.cells [.int .u64 (t : Nat), .str (mkS id), .int .i64 tm, .str (mkS tx)])
  have c0 : (S.add (.cells [.int .u64 (t : Nat), .str (mkS id), .int .i64 tm, .str (mkS tx)])).cells S.n = some [.int .u64 (t : Nat), .str (mkS id), .int .i64 tm, .str (mkS tx)] := by rw [cells_addc, if_pos rfl]
  have l0 : S.n < (S.add (.cells [.int .u64 (t : Nat), .str (mkS id), .int .i64 tm, .str (mkS tx)])).n := by rw [St.add_n]; omega
  refine RSim.run mixed k_copy_Encode ?_ (by simp)
  simp only [b_copy_Encode, go_sem]
  generalize S.add (.cells [.int .u64 (t : Nat), .str (mkS id), .int .i64 tm, .str (mkS tx)]) = S0 at *
  refine wi_call ?_
  simp only [go_sem]
  refine form_runs (d := ⟨id, tm, tx⟩) hdd fun S1 k1 => ?_
  have c1 := k1.cells c0 l0 (fun h => h)
  have l1 := k1.lt l0
  have k1 := k0.trans k1 (fun _ _ => _root_.id)
  generalize hb : Dc.form ⟨id, tm, tx⟩ = b at *
  cases b
  · simp only [go_sem]
    refine wc_ite (b := true) (by simp only [go_sem] <;> rfl) (fun _ => ?_) (fun h => by cases h)
    simp only [go_sem]
    exact hQ' rfl S1 k1
  · obtain ⟨hi, hx⟩ : id.length ≤ 32 ∧ tx.length ≤ 512 := (hfb true rfl).resolve_right (by decide)
    simp only [go_sem]
    refine wc_ite (b := false) (by simp only [go_sem] <;> rfl) (fun h => by cases h) (fun _ => ?_)
    simp only [go_sem, c1]
    refine wi_call ?_
    simp only [go_sem]
    refine uvarint_own ht fun S2 v2 b2 k2 => ?_
    have c2 := k2.cells c1 l1 (fun h => h)
    have l2 := k2.lt l1
    have b2 := b2.base (S0 := S) k1.n
    have k2 := k1.trans k2 (fun _ _ => _root_.id)
    simp only [go_sem, c2]
    refine wi_call ?_
    simp only [go_sem]
    refine text_runs (s := id) (by omega) fun S3 v3 b3 k3 => ?_
    have c3 := k3.cells c2 l2 (fun h => h)
    have l3 := k3.lt l2
    have b2 := b2.keep k3
    have k3 := k2.trans k3 (fun _ _ => _root_.id)
    have u1 := uvar_len10 ht
    have u2 := uvar_len10 (v := id.length) (by omega)
    have u3 := uvar_len10 (zig_lt d1 d2)
    have u4 := uvar_len10 (v := tx.length) (by omega)
    simp only [go_sem]
    refine wi_appendBT (cs := textB id) (by simp only [go_sem]) b2 (by simp only [go_sem]; exact b3.is.elems _) (by rw [textB_len]; omega) k3 fun v4 S4 k4 b4 p4 => ?_
    obtain ⟨c4, l4⟩ := p4 _ _ c3 l3
    simp only [go_sem, c4]
    refine wi_call ?_
    simp only [go_sem]
    refine zig_runs d1 d2 ?_
    simp only [go_sem]
    refine wi_call ?_
    simp only [go_sem]
    refine uvarint_own (zig_lt d1 d2) fun S5 v5 b5 k5 => ?_
    have c5 := k5.cells c4 l4 (fun h => h)
    have l5 := k5.lt l4
    have b4 := b4.keep k5
    have k5 := k4.trans k5 (fun _ _ => _root_.id)
    simp only [go_sem]
    refine wi_appendBT (cs := uvar (zigN tm)) (by simp only [go_sem]) b4 (by simp only [go_sem]; exact b5.is.elems _) (by rw [List.length_append, textB_len]; omega) k5 fun v6 S6 k6 b6 p6 => ?_
    obtain ⟨c6, l6⟩ := p6 _ _ c5 l5
    simp only [go_sem, c6]
    refine wi_call ?_
    simp only [go_sem]
    refine text_runs (s := tx) (by omega) fun S7 v7 b7 k7 => ?_
    have b6 := b6.keep k7
    have k7 := k6.trans k7 (fun _ _ => _root_.id)
    simp only [go_sem]
    refine wi_appendBT (cs := textB tx) (by simp only [go_sem]) b6 (by simp only [go_sem]; exact b7.is.elems _) (by rw [List.length_append, List.length_append, textB_len, textB_len]; omega) k7 fun v8 S8 k8 b8 p8 => ?_
    simp only [go_sem]
    exact hQ rfl S8 v8 b8 k8
end Go.VM
