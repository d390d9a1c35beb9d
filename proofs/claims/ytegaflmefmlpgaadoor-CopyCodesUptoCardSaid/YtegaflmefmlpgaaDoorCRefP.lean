/-
  The document's texts and numbers, its entries as bytes and back; CopyCodes. NEWPP
-/
import Derived.Test.YtegaflmefmlpgaaDoorCStep
import Derived.Test.YtegaflmefmlpgaaDoorWRefA
set_option maxRecDepth 20000
set_option linter.unusedVariables false
set_option linter.unusedSimpArgs false
namespace Go.VM
open Go Go.RowKit Go.Proofs

theorem refUvarint_own {w0 : World} {S : St} {Q : AEnd → St → Prop} {v : Nat} (hv : v < 18446744073709551616)
    (hQ : ∀ S' v', BT S S' v' (uvar v) → Keeps (fun _ => False) S S' → Q (.ret v') S') : RSim Tryd.prog w0 n_r01_Uvarint [.int .u64 v] S Q :=
  refUvarint_full hv fun S1 t ht hn ho k => hQ S1 _ ⟨t, rfl, ht, hn, ho⟩ k
theorem refText_runs {w0 : World} {S : St} {Q : AEnd → St → Prop} {s : List UInt8} (hs : s.length ≤ 10000000000000) (hQ : ∀ S' v', BT S S' v' (textB s) → Keeps (fun _ => False) S S' → Q (.ret v') S') : RSim Tryd.prog w0 n_r01_Text [.str (mkS s)] S Q := by
  have cv : ∀ S, V.conv S (.int .u64) (.int .i64 (s.length : Int)) = some (.int .u64 (s.length : Int)) := fun S => by
    simp only [V.conv, wu64 (show (0 : Int) ≤ (s.length : Int) by omega) (show (s.length : Int) < 18446744073709551616 by omega)]
  refine RSim.run mixed k_r01_Text ?_ (by simp)
  simp only [b_r01_Text, go_sem, cv]
  refine wi_call ?_
  simp only [go_sem]
  refine refUvarint_own (v := s.length) (by omega) fun S1 v1 b1 k1 => ?_
  have hu := uvar_len10 (v := s.length) (by omega)
  simp only [go_sem]
  refine wi_appendBT (cs := s) (by simp only [go_sem]) b1 (by simp only [go_sem]; exact elemsS s S1) (by omega) k1 fun v2 S2 k2 b2 p2 => ?_
  simp only [go_sem]
  exact hQ S2 v2 b2 k2
theorem refZig_runs {w0 : World} {S : St} {Q : AEnd → St → Prop} {v : Int} (h1 : -9223372036854775808 ≤ v) (h2 : v < 9223372036854775808) (hQ : Q (.ret (.int .u64 (zigN v : Nat))) S) : RSim Tryd.prog w0 n_r01_Zig [.int .i64 v] S Q := by
  unfold zigN at hQ
  by_cases h : 0 ≤ v
  · rw [if_pos h] at hQ
    have q : decide (v ≥ 0) = true := decide_eq_true h
    have cv : ∀ S, V.conv S (.int .u64) (.int .i64 v) = some (.int .u64 v) := fun S => by simp only [V.conv, wu64 h (by omega)]
    have m : IntKind.u64.wrap (2 * v) = (((2 * v).toNat : Nat) : Int) := by rw [wu64 (by omega) (by omega)]; omega
    refine RSim.run mixed k_r01_Zig ?_ (by simp)
    simp only [b_r01_Zig, go_sem, q, cv]
    refine wc_ite (b := true) (by simp only [go_sem] <;> rfl) (fun _ => ?_) (fun h => by cases h)
    simp only [go_sem, cv, m]
    exact hQ
  · rw [if_neg h] at hQ
    have q : decide (v ≥ 0) = false := decide_eq_false h
    have w1 : IntKind.i64.wrap (v + 1) = v + 1 := w64 (by omega) (by omega)
    have w2 : IntKind.i64.wrap (0 - (v + 1)) = -v - 1 := by rw [w64 (by omega) (by omega)]; omega
    have cv : ∀ S, V.conv S (.int .u64) (.int .i64 (-v - 1)) = some (.int .u64 (-v - 1)) := fun S => by simp only [V.conv, wu64 (show 0 ≤ -v - 1 by omega) (by omega)]
    have m1 : IntKind.u64.wrap (2 * (-v - 1)) = 2 * (-v - 1) := wu64 (by omega) (by omega)
    have m2 : IntKind.u64.wrap (2 * (-v - 1) + 1) = (((-2 * v - 1).toNat : Nat) : Int) := by rw [wu64 (by omega) (by omega)]; omega
    refine RSim.run mixed k_r01_Zig ?_ (by simp)
    simp only [b_r01_Zig, go_sem, q]
    refine wc_ite (b := false) (by simp only [go_sem] <;> rfl) (fun h => by cases h) (fun _ => ?_)
    simp only [go_sem, w1, w2, cv, m1, m2]
    exact hQ
theorem refZag_runs {w0 : World} {S : St} {Q : AEnd → St → Prop} {u : Nat} (h : u < 18446744073709551616) (hQ : Q (.ret (.int .i64 (zagN u))) S) : RSim Tryd.prog w0 n_r01_Zag [.int .u64 u] S Q := by
  unfold zagN at hQ
  have t1 : (u : Int).tmod 2 = ((u % 2 : Nat) : Int) := by rw [Int.tmod_eq_emod_of_nonneg (by omega)]; omega
  have t2 : IntKind.u64.wrap ((u : Int).tdiv 2) = ((u / 2 : Nat) : Int) := by
    rw [Int.tdiv_eq_ediv_of_nonneg (by omega), wu64 (by omega) (by omega)]; omega
  have cv : ∀ S, V.conv S (.int .i64) (.int .u64 ((u / 2 : Nat) : Int)) = some (.int .i64 ((u / 2 : Nat) : Int)) := fun S => by simp only [V.conv]; rw [w64 (by omega) (by omega)]
  by_cases hm : u % 2 = 0
  · rw [if_pos hm] at hQ
    have q : (((u % 2 : Nat) : Int) == 0) = true := by rw [hm]; rfl
    refine RSim.run mixed k_r01_Zag ?_ (by simp)
    simp only [b_r01_Zag, go_sem, t1, q]
    refine wc_ite (b := true) (by simp only [go_sem] <;> rfl) (fun _ => ?_) (fun h => by cases h)
    simp only [go_sem, t2, cv]
    exact hQ
  · rw [if_neg hm] at hQ
    have q : (((u % 2 : Nat) : Int) == 0) = false := by rw [beq_eq_false_iff_ne]; omega
    have w1 : IntKind.i64.wrap (0 - ((u / 2 : Nat) : Int)) = -((u / 2 : Nat) : Int) := by rw [w64 (by omega) (by omega)]; omega
    have w2 : IntKind.i64.wrap (-((u / 2 : Nat) : Int) - 1) = -((u / 2 : Nat) : Int) - 1 := w64 (by omega) (by omega)
    refine RSim.run mixed k_r01_Zag ?_ (by simp)
    simp only [b_r01_Zag, go_sem, t1, q]
    refine wc_ite (b := false) (by simp only [go_sem] <;> rfl) (fun h => by cases h) (fun _ => ?_)
    simp only [go_sem, t2, cv, w1, w2]
    exact hQ
theorem readT_err {most : Nat} {l : List UInt8} {e : Int} (h : readT most l = .inl e) : e ≠ 0 := by
  unfold readT at h
  split at h
  · injection h with h; omega
  · split at h
    · injection h with h; omega
    · split at h
      · injection h with h; omega
      · cases h
theorem refReadText_runs {w0 : World} {S : St} {Q : AEnd → St → Prop} {v : V} {bs : List UInt8} {p most : Nat} (hv : IsBytes v bs) (hp : p ≤ bs.length) (hl : bs.length ≤ 100000000000000) (hm : most ≤ 1000000)
    (hQ : ∀ s k S', readT most (bs.drop p) = .inr (s, k) → p + k ≤ bs.length → s.length ≤ most → Keeps (fun _ => False) S S' → Q (.ret (.tup [.str (mkS s), .int .i64 ((p + k : Nat) : Int), .int .i64 0])) S')
    (hQ' : ∀ e S', readT most (bs.drop p) = .inl e → Keeps (fun _ => False) S S' → Q (.ret (.tup [.str (mkS []), .int .i64 0, .int .i64 e])) S') :
    RSim Tryd.prog w0 n_r01_ReadText [v, .int .i64 p, .int .i64 most] S Q := by
  obtain ⟨t, rfl, ht⟩ := id hv
  have hd : (bs.drop p).length = bs.length - p := List.length_drop
  have hQ0 : ∀ e S', readT most (bs.drop p) = .inl e → Keeps (fun _ => False) S S' → Q (.ret (.tup [.str (mkS []), .int .i64 0, .int .i64 e])) S' := hQ'
  refine RSim.run mixed k_r01_ReadText ?_ (by simp)
  simp only [b_r01_ReadText, go_sem]
  refine wi_call ?_
  simp only [go_sem]
  refine refReadUvarint_runs hv hp hl (fun n k S1 hr hn hk k1 => ?_) (fun S1 hr k1 => ?_)
  · unfold readT at hQ hQ'
    rw [hr] at hQ hQ'
    simp only [hd] at hQ hQ'
    simp only [go_sem]
    refine wc_ite (b := false) (by simp only [go_sem] <;> rfl) (fun h => by cases h) (fun _ => ?_)
    have w1 : IntKind.i64.wrap ((bs.length : Int) - ((p + k : Nat) : Int)) = ((bs.length - (p + k) : Nat) : Int) := by rw [w64 (by omega) (by omega)]; omega
    have cv : V.conv S1 (.int .u64) (.int .i64 ((bs.length - (p + k) : Nat) : Int)) = some (.int .u64 ((bs.length - (p + k) : Nat) : Int)) := by
      simp only [V.conv]; rw [wu64 (by omega) (by omega)]
    simp only [go_sem, w1, cv]
    refine wc_ite (b := decide ((n : Int) > ((bs.length - (p + k) : Nat) : Int))) (by simp only [go_sem]) (fun hc => ?_) (fun hc => ?_)
    · have h := of_decide_eq_true hc
      simp only [go_sem]
      rw [if_pos (by omega)] at hQ'
      exact hQ' 3 S1 rfl k1
    · have h := of_decide_eq_false hc
      rw [if_neg (by omega)] at hQ hQ'
      have cv2 : V.conv S1 (.int .u64) (.int .i64 (most : Int)) = some (.int .u64 (most : Int)) := by
        simp only [V.conv]; rw [wu64 (by omega) (by omega)]
      have e0 : decide ((most : Int) < 0) = false := decide_eq_false (by omega)
      simp only [go_sem, e0, cv2]
      refine wc_ite (b := decide ((n : Int) > (most : Int))) (by simp only [go_sem]) (fun hc => ?_) (fun hc => ?_)
      · have h := of_decide_eq_true hc
        simp only [go_sem]
        rw [if_pos (by omega)] at hQ'
        exact hQ' 2 S1 rfl k1
      · have h2 := of_decide_eq_false hc
        rw [if_neg (by omega)] at hQ
        have cv3 : V.conv S1 (.int .i64) (.int .u64 (n : Int)) = some (.int .i64 (n : Int)) := by
          simp only [V.conv]; rw [w64 (by omega) (by omega)]
        have w2 : IntKind.i64.wrap (((p + k : Nat) : Int) + (n : Int)) = ((p + (k + n) : Nat) : Int) := by rw [w64 (by omega) (by omega)]; omega
        have hk0 := ruv_pos hr
        have htn : (t = .nil) = False := eq_false fun h => by have := ht h; subst this; simp at hk; omega
        have hA : (p + k ≤ p + (k + n)) = True := eq_true (by omega)
        have hB : (p + (k + n) ≤ bs.length) = True := eq_true (by omega)
        have cb : ∀ T, T ≠ .nil → V.conv S1 .bytesStr (.sl (List.take ((p + (k + n) - (p + k)) * 1) (List.drop ((p + k) * 1) (bs.map u8V))) (p + (k + n) - (p + k)) 1 T) = some (.str (mkS ((bs.drop (p + k)).take n))) := fun T hT => by
          refine IsBytes.conv ⟨T, ?_, fun h => absurd h hT⟩ S1
          rw [Nat.mul_one, Nat.mul_one, show p + (k + n) - (p + k) = n by omega, List.map_take, List.map_drop, List.length_take, List.length_drop, Nat.min_eq_left (by omega)]
        have cb1 := cb t (by simpa using htn)
        have cb2 := cb .no (by simp)
        have hq := hQ _ _ S1 rfl (by omega) (by rw [List.length_take]; omega) k1
        rw [List.drop_drop] at hq
        by_cases hC : p + (k + n) = bs.length
        · have hC' : (p + (k + n) = bs.length) = True := eq_true hC
          simp only [go_sem, cv3, w2, htn, hA, hB, hC', cb1]
          exact hq
        · have hC' : (p + (k + n) = bs.length) = False := eq_false hC
          simp only [go_sem, cv3, w2, htn, hA, hB, hC', cb2]
          exact hq
  · have := hQ0 3 S1 (by unfold readT; rw [hr]) k1
    simp only [go_sem]
    refine wc_ite (b := true) (by simp only [go_sem] <;> rfl) (fun _ => ?_) (fun h => by cases h)
    simp only [go_sem]
    exact this

theorem refEncode_runs {w0 : World} {S : St} {Q : AEnd → St → Prop} {o : Op} (ho : o.Ok) (hi : o.d.id.length ≤ 10000000000000) (hx : o.d.tx.length ≤ 10000000000000) (hQ : ∀ S' v', BT S S' v' (encB o) → Keeps (fun _ => False) S S' → Q (.ret v') S') : RSim Tryd.prog w0 n_r16_Encode [.agg o.v] S Q := by
  obtain ⟨ht, hd⟩ := ho
  obtain ⟨t, ⟨id, tm, tx⟩⟩ := o
  obtain ⟨d1, d2, _, _⟩ := hd
  simp only at ht d1 d2 hQ hi hx
  simp only [Op.v, Dc.v]
  have k0 := (Keeps.refl (fun _ => False) S).add (.cells [.int .u64 (t : Nat), .str (mkS id), .int .i64 tm, .str (mkS tx)])
  have c0 : (S.add (.cells [.int .u64 (t : Nat), .str (mkS id), .int .i64 tm, .str (mkS tx)])).cells S.n = some [.int .u64 (t : Nat), .str (mkS id), .int .i64 tm, .str (mkS tx)] := by rw [cells_addc, if_pos rfl]
  have l0 : S.n < (S.add (.cells [.int .u64 (t : Nat), .str (mkS id), .int .i64 tm, .str (mkS tx)])).n := by rw [St.add_n]; omega
  have u1 := uvar_len10 ht
  have u2 := uvar_len10 (v := id.length) (by omega)
  have u3 := uvar_len10 (zig_lt d1 d2)
  have u4 := uvar_len10 (v := tx.length) (by omega)
  refine RSim.run mixed k_r16_Encode ?_ (by simp)
  simp only [b_r16_Encode, go_sem]
  generalize S.add (.cells [.int .u64 (t : Nat), .str (mkS id), .int .i64 tm, .str (mkS tx)]) = S1 at *
  refine wi_call ?_
  simp only [go_sem]
  refine refUvarint_own ht fun S2 v2 b2 k2 => ?_
  have c2 := k2.cells c0 l0 (fun h => h)
  have l2 := k2.lt l0
  have b2 := b2.base (S0 := S) k0.n
  have k2 := k0.trans k2 (fun _ _ => _root_.id)
  simp only [go_sem, c2]
  refine wi_call ?_
  simp only [go_sem]
  refine refText_runs (s := id) hi fun S3 v3 b3 k3 => ?_
  have c3 := k3.cells c2 l2 (fun h => h)
  have l3 := k3.lt l2
  have b2 := b2.keep k3
  have k3 := k2.trans k3 (fun _ _ => _root_.id)
  simp only [go_sem]
  refine wi_appendBT (cs := textB id) (by simp only [go_sem]) b2 (by simp only [go_sem]; exact b3.is.elems _) (by rw [textB_len]; omega) k3 fun v4 S4 k4 b4 p4 => ?_
  obtain ⟨c4, l4⟩ := p4 _ _ c3 l3
  simp only [go_sem, c4]
  refine wi_call ?_
  simp only [go_sem]
  refine refZig_runs d1 d2 ?_
  simp only [go_sem]
  refine wi_call ?_
  simp only [go_sem]
  refine refUvarint_own (zig_lt d1 d2) fun S5 v5 b5 k5 => ?_
  have c5 := k5.cells c4 l4 (fun h => h)
  have l5 := k5.lt l4
  have b4 := b4.keep k5
  have k5 := k4.trans k5 (fun _ _ => _root_.id)
  simp only [go_sem]
  refine wi_appendBT (cs := uvar (zigN tm)) (by simp only [go_sem]) b4 (by simp only [go_sem]; exact b5.is.elems _) (by rw [List.length_append, textB_len]; omega) k5 fun v6 S6 k6 b6 p6 => ?_
  obtain ⟨c6, l6⟩ := p6 _ _ c5 l5
  simp only [go_sem, c6]
  refine wi_call ?_
  simp only [go_sem]
  refine refText_runs (s := tx) hx fun S7 v7 b7 k7 => ?_
  have b6 := b6.keep k7
  have k7 := k6.trans k7 (fun _ _ => _root_.id)
  simp only [go_sem]
  refine wi_appendBT (cs := textB tx) (by simp only [go_sem]) b6 (by simp only [go_sem]; exact b7.is.elems _) (by rw [List.length_append, List.length_append, textB_len, textB_len]; omega) k7 fun v8 S8 k8 b8 p8 => ?_
  simp only [go_sem]
  exact hQ S8 v8 b8 k8

theorem numD_bad {bs : List UInt8} {a : Nat} : (numD bs (a, false)).2.2 = false := by unfold numD; split <;> rfl
theorem textD_bad {most : Nat} {bs : List UInt8} {a : Nat} : (textD most bs (a, false)).2.2 = false := by unfold textD; split <;> rfl
theorem numD_false {bs : List UInt8} {a : Nat × Bool} (h : a.2 = false) : (numD bs a).2.2 = false := by obtain ⟨a, b⟩ := a; simp only at h; subst h; exact numD_bad
theorem textD_false {most : Nat} {bs : List UInt8} {a : Nat × Bool} (h : a.2 = false) : (textD most bs a).2.2 = false := by obtain ⟨a, b⟩ := a; simp only at h; subst h; exact textD_bad
theorem decB_bad {bs : List UInt8} (h : (decO bs).2.2 = false) : decB bs = none := if_neg (by rw [h]; simp)
theorem refDecode_runs {w0 : World} {S : St} {Q : AEnd → St → Prop} {v : V} {bs : List UInt8} (hv : IsBytes v bs) (hl : bs.length ≤ 100000000000000)
    (hQ : ∀ o, decB bs = some o → o.Ok → ∀ S', Keeps (fun _ => False) S S' → Q (.ret (.tup [.agg o.v, .int .i64 0])) S')
    (hQ' : decB bs = none → ∀ S', Keeps (fun _ => False) S S' → Q (.ret (.tup [.agg opZ, .int .i64 3])) S') : RSim Tryd.prog w0 n_r16_Decode [v] S Q := by
  obtain ⟨t, rfl, ht⟩ := id hv
  have c0 : (S.add (.cells opZ)).cells S.n = some opZ := by rw [cells_addc, if_pos rfl]
  have l0 : S.n < (S.add (.cells opZ)).n := by rw [St.add_n]; omega
  have k0 := (Keeps.refl (fun _ => False) S).add (.cells opZ)
  have fail : decB bs = none → ∀ S', Keeps (fun _ => False) S S' → Q (.ret (.tup [.agg opZ, .int .i64 3])) (S'.set S.n (.cells opZ)) := fun h S' k => hQ' h _ (k.set (.inr (Nat.le_refl _)) _)
  simp only [opZ] at c0 l0 k0 fail
  refine RSim.run mixed k_r16_Decode ?_ (by simp)
  simp only [b_r16_Decode, go_sem]
  generalize S.add (.cells [.int .u64 0, .str (mkS []), .int .i64 0, .str (mkS [])]) = S1 at *
  refine wi_call ?_
  simp only [go_sem]
  refine refReadUvarint_runs (p := 0) hv (Nat.zero_le _) hl (fun n k S2 hr hn hk k2 => ?_) fun S2 hr k2 => ?_
  rotate_left
  · have c2 := k2.cells c0 l0 _root_.id
    have k2 := k0.trans k2 (fun _ _ => _root_.id)
    simp only [go_sem]
    refine wc_ite (b := true) (by simp only [go_sem] <;> rfl) (fun _ => ?_) (fun h => by cases h)
    simp only [go_sem, c2]
    exact fail (decB_bad (by
      unfold decO
      refine textD_false (numD_false (textD_false ?_))
      unfold numD; rw [hr])) _ k2
  have e1 : numD bs (0, true) = (n, k, true) := by
    unfold numD; rw [hr]; simp only [Nat.zero_add]
  have hk : k ≤ bs.length := by omega
  have c2 := k2.cells c0 l0 _root_.id
  have l2 := k2.lt l0
  have k2 := k0.trans k2 (fun _ _ => _root_.id)
  simp only [go_sem]
  refine wc_ite (b := false) (by simp only [go_sem] <;> rfl) (fun h => by cases h) (fun _ => ?_)
  simp only [go_sem]
  refine wi_call ?_
  simp only [go_sem]
  refine refReadText_runs (p := k) (most := 32) hv hk hl (by decide) (fun id ki S3 hr3 hk3 hi3 k3 => ?_) fun e S3 hr3 k3 => ?_
  rotate_left
  · have hne := readT_err hr3
    have qe : (e != 0) = true := by simpa using hne
    have c3 := k3.cells c2 l2 _root_.id
    have k3 := k2.trans k3 (fun _ _ => _root_.id)
    simp only [go_sem, qe]
    refine wc_ite (b := true) (by simp only [go_sem] <;> rfl) (fun _ => ?_) (fun h => by cases h)
    simp only [go_sem, c3]
    exact fail (decB_bad (by
      unfold decO
      refine textD_false (numD_false ?_)
      rw [e1]; unfold textD; rw [hr3])) _ k3
  have e2 : textD 32 bs (k, true) = (id, k + ki, true) := by unfold textD; rw [hr3]
  have c3 := k3.cells c2 l2 _root_.id
  have l3 := k3.lt l2
  have k3 := k2.trans k3 (fun _ _ => _root_.id)
  simp only [go_sem]
  refine wc_ite (b := false) (by simp only [go_sem] <;> rfl) (fun h => by cases h) (fun _ => ?_)
  simp only [go_sem]
  refine wi_call ?_
  simp only [go_sem]
  refine refReadUvarint_runs (p := k + ki) hv hk3 hl (fun z kz S4 hr4 hz4 hk4 k4 => ?_) fun S4 hr4 k4 => ?_
  rotate_left
  · have c4 := k4.cells c3 l3 _root_.id
    have k4 := k3.trans k4 (fun _ _ => _root_.id)
    simp only [go_sem]
    refine wc_ite (b := true) (by simp only [go_sem] <;> rfl) (fun _ => ?_) (fun h => by cases h)
    simp only [go_sem, c4]
    exact fail (decB_bad (by
      unfold decO
      refine textD_false ?_
      rw [e1, e2]; unfold numD; rw [hr4])) _ k4
  have e3 : numD bs (k + ki, true) = (z, k + ki + kz, true) := by unfold numD; rw [hr4]
  have c4 := k4.cells c3 l3 _root_.id
  have l4 := k4.lt l3
  have k4 := k3.trans k4 (fun _ _ => _root_.id)
  simp only [go_sem]
  refine wc_ite (b := false) (by simp only [go_sem] <;> rfl) (fun h => by cases h) (fun _ => ?_)
  simp only [go_sem]
  refine wi_call ?_
  simp only [go_sem]
  have zr := zag_rng hz4
  have hzero : ∀ (x : List UInt8) (k' : Nat) (ok : Bool), textD 512 bs (k + ki + kz, true) = (x, k', ok) → decO bs = (⟨n, ⟨id, zagN z, x⟩⟩, k', ok) := fun x k' ok h => by
    unfold decO
    simp only [e1, e2, e3, h]
  have step : ∀ (x : List UInt8) (k' : Nat) (e : Int) (S5 : St), Keeps (fun _ => False) S4 S5 → (e = 0 ∧ textD 512 bs (k + ki + kz, true) = (x, k', true) ∧ x.length ≤ 512 ∧ k' ≤ bs.length ∨ e ≠ 0 ∧ x = [] ∧ (textD 512 bs (k + ki + kz, true)).2.2 = false ∧ k' = 0) → True := fun _ _ _ _ _ _ => trivial
  clear step
  refine refReadText_runs (p := k + ki + kz) (most := 512) hv hk4 hl (by decide) (fun x kx S5 hr5 hk5 hx5 k5 => ?_) fun e S5 hr5 k5 => ?_
  · have e4 := hzero x (k + ki + kz + kx) true (by unfold textD; rw [hr5])
    have c5 := k5.cells c4 l4 _root_.id
    have l5 := k5.lt l4
    have k5 := k4.trans k5 (fun _ _ => _root_.id)
    have hok : (⟨n, ⟨id, zagN z, x⟩⟩ : Op).Ok := ⟨hn, ⟨zr.1, zr.2, by simp only; omega, by simp only; omega⟩⟩
    simp only [go_sem]
    refine wi_call ?_
    simp only [go_sem]
    refine refZag_runs hz4 ?_
    have q1 : (((k + ki + kz + kx : Nat) : Int) != (bs.length : Int)) = decide (k + ki + kz + kx ≠ bs.length) := by rw [Bool.eq_iff_iff, bne_iff_ne, decide_eq_true_iff]; omega
    by_cases hend : k + ki + kz + kx ≠ bs.length
    · rw [decide_eq_true hend] at q1
      have hne : ¬ S.n = S5.n := by omega
      simp only [go_sem, q1]
      refine wc_ite (b := true) (by simp only [go_sem] <;> rfl) (fun _ => ?_) (fun h => by cases h)
      have c6 : ((S5.add (.cells [.int .u64 0, .str (mkS []), .int .i64 0, .str (mkS [])])).set S5.n (.cells [.int .u64 (n : Nat), .str (mkS id), .int .i64 (zagN z), .str (mkS x)])).cells S.n = some [.int .u64 0, .str (mkS []), .int .i64 0, .str (mkS [])] := by
        rw [cells_setc, if_neg hne, cells_addc, if_neg hne]; exact c5
      simp only [go_sem, c6]
      refine fail ?_ _ ((k5.add _).set (.inr k5.n) _)
      refine if_neg ?_
      rw [e4]; simp only; rintro ⟨_, h, _⟩; exact hend h
    · rw [decide_eq_false hend] at q1
      have hend := Decidable.not_not.1 hend
      have hne : ¬ S.n = S5.n := by omega
      simp only [go_sem, q1]
      refine wi_call ?_
      simp only [go_sem]
      have k6 := (k5.add (.cells [.int .u64 0, .str (mkS []), .int .i64 0, .str (mkS [])])).set (.inr k5.n) (.cells [.int .u64 (n : Nat), .str (mkS id), .int .i64 (zagN z), .str (mkS x)])
      have c6 : ((S5.add (.cells [.int .u64 0, .str (mkS []), .int .i64 0, .str (mkS [])])).set S5.n (.cells [.int .u64 (n : Nat), .str (mkS id), .int .i64 (zagN z), .str (mkS x)])).cells S.n = some [.int .u64 0, .str (mkS []), .int .i64 0, .str (mkS [])] := by
        rw [cells_setc, if_neg hne, cells_addc, if_neg hne]; exact c5
      have d6 : ((S5.add (.cells [.int .u64 0, .str (mkS []), .int .i64 0, .str (mkS [])])).set S5.n (.cells [.int .u64 (n : Nat), .str (mkS id), .int .i64 (zagN z), .str (mkS x)])).cells S5.n = some [.int .u64 (n : Nat), .str (mkS id), .int .i64 (zagN z), .str (mkS x)] := by
        rw [cells_setc, if_pos rfl]
      have l6 : S.n < ((S5.add (.cells [.int .u64 0, .str (mkS []), .int .i64 0, .str (mkS [])])).set S5.n (.cells [.int .u64 (n : Nat), .str (mkS id), .int .i64 (zagN z), .str (mkS x)])).n := by rw [St.set_n, St.add_n]; omega
      have m6 : S5.n < ((S5.add (.cells [.int .u64 0, .str (mkS []), .int .i64 0, .str (mkS [])])).set S5.n (.cells [.int .u64 (n : Nat), .str (mkS id), .int .i64 (zagN z), .str (mkS x)])).n := by rw [St.set_n, St.add_n]; omega
      generalize (S5.add (.cells [.int .u64 0, .str (mkS []), .int .i64 0, .str (mkS [])])).set S5.n (.cells [.int .u64 (n : Nat), .str (mkS id), .int .i64 (zagN z), .str (mkS x)]) = S6 at *
      refine refForm_runs (d := ⟨id, zagN z, x⟩) hok.d fun S7 k7 => ?_
      have c7 := k7.cells c6 l6 _root_.id
      have d7 := k7.cells d6 m6 _root_.id
      have k7 := k6.trans k7 (fun _ _ => _root_.id)
      cases hf : Dc.form ⟨id, zagN z, x⟩ with
      | false =>
        simp only [go_sem]
        refine wc_ite (b := true) (by simp only [go_sem] <;> rfl) (fun _ => ?_) (fun h => by cases h)
        simp only [go_sem, c7]
        refine fail ?_ _ k7
        refine if_neg ?_
        rw [e4]; simp only; rintro ⟨_, _, h⟩; rw [hf] at h; cases h
      | true =>
        have hdec : decB bs = some ⟨n, ⟨id, zagN z, x⟩⟩ := by
          unfold decB
          rw [e4]
          exact if_pos ⟨rfl, hend, hf⟩
        simp only [go_sem]
        refine wc_ite (b := false) (by simp only [go_sem] <;> rfl) (fun h => by cases h) (fun _ => ?_)
        simp only [go_sem, c7, d7]
        exact hQ _ hdec hok _ (k7.set (.inr (Nat.le_refl _)) _)
  · have hne := readT_err hr5
    have qe : (e != 0) = true := by simpa using hne
    have c5 := k5.cells c4 l4 _root_.id
    have l5 := k5.lt l4
    have k5 := k4.trans k5 (fun _ _ => _root_.id)
    have hne5 : ¬ S.n = S5.n := by omega
    simp only [go_sem]
    refine wi_call ?_
    simp only [go_sem]
    refine refZag_runs hz4 ?_
    simp only [go_sem, qe]
    refine wc_ite (b := true) (by simp only [go_sem] <;> rfl) (fun _ => ?_) (fun h => by cases h)
    have c6 : ((S5.add (.cells [.int .u64 0, .str (mkS []), .int .i64 0, .str (mkS [])])).set S5.n (.cells [.int .u64 (n : Nat), .str (mkS id), .int .i64 (zagN z), .str (mkS [])])).cells S.n = some [.int .u64 0, .str (mkS []), .int .i64 0, .str (mkS [])] := by
      rw [cells_setc, if_neg hne5, cells_addc, if_neg hne5]; exact c5
    simp only [go_sem, c6]
    refine fail (decB_bad ?_) _ ((k5.add _).set (.inr k5.n) _)
    unfold decO
    simp only [e1, e2, e3]
    unfold textD; rw [hr5]

theorem readT_long {s rest : List UInt8} {most : Nat} (h : most < s.length) (hs : s.length < 18446744073709551616) : readT most (textB s ++ rest) = .inl 2 := by
  unfold readT textB
  rw [List.append_assoc, ruv0 hs]
  simp only
  rw [if_neg (by simp), if_pos h]
theorem textD_long {bs pre s : List UInt8} {most : Nat} {rest : List UInt8} {ok : Bool} (hb : bs = pre ++ (textB s ++ rest)) (h : most < s.length) (hs : s.length < 18446744073709551616) : (textD most bs (pre.length, ok)).2.2 = false := by
  subst hb
  unfold textD
  simp only [List.drop_left' rfl]
  rw [readT_long h hs]
theorem dec_bad {o : Op} (ho : o.Ok) (hf : o.d.form = false) : decB (encB o) = none := by
  have h1 := ho.d.id
  have h2 := ho.d.tx
  have e1 : numD (encB o) (0, true) = (o.t, (uvar o.t).length, true) := by
    have := numD_at (bs := encB o) (pre := []) (x := o.t) (ok := true) (by simp [encB]; rfl) ho.t
    simpa using this
  by_cases hi : 32 < o.d.id.length
  · refine decB_bad ?_
    unfold decO
    refine textD_false (numD_false ?_)
    rw [e1]
    exact textD_long (pre := uvar o.t) (s := o.d.id) (by simp [encB]; rfl) hi (by omega)
  have e2 : textD 32 (encB o) ((uvar o.t).length, true) = (o.d.id, (uvar o.t ++ textB o.d.id).length, true) := by
    rw [textD_at (pre := uvar o.t) (s := o.d.id) (by simp [encB]; rfl) (by omega) (by decide), List.length_append]
  have e3 : numD (encB o) ((uvar o.t ++ textB o.d.id).length, true) = (zigN o.d.tm, (uvar o.t ++ textB o.d.id ++ uvar (zigN o.d.tm)).length, true) := by
    rw [numD_at (pre := uvar o.t ++ textB o.d.id) (x := zigN o.d.tm) (by simp [encB]; rfl) (zig_lt ho.d.lo ho.d.hi), ← List.length_append]
  by_cases hx : 512 < o.d.tx.length
  · refine decB_bad ?_
    unfold decO
    simp only [e1, e2, e3]
    exact textD_long (pre := uvar o.t ++ textB o.d.id ++ uvar (zigN o.d.tm)) (s := o.d.tx) (rest := []) (by simp [encB]) hx (by omega)
  have e4 : textD 512 (encB o) ((uvar o.t ++ textB o.d.id ++ uvar (zigN o.d.tm)).length, true) = (o.d.tx, (encB o).length, true) := by
    rw [textD_at (pre := uvar o.t ++ textB o.d.id ++ uvar (zigN o.d.tm)) (s := o.d.tx) (rest := []) (by simp [encB]) (by omega) (by decide), ← List.length_append]
    rfl
  have hO : decO (encB o) = (o, (encB o).length, true) := by
    simp only [decO, e1, e2, e3, e4, zag_zig]
  unfold decB
  rw [hO]
  exact if_neg (by rintro ⟨_, _, h⟩; rw [hf] at h; cases h)

theorem copyCodes_runs {w0 : World} {v : V} {o : Op} {p : List UInt8} (ho : o.Ok) (hi : o.d.id.length ≤ 10000000000000) (hx : o.d.tx.length ≤ 10000000000000) (hv : IsBytes v p) (hp : p.length ≤ 100000000000000) {S : St} {Q : AEnd → St → Prop} (hQ : ∀ S', Q (.ret (.bool true)) S') :
    RSim Tryd.prog w0 n_l16_CopyCodes [.agg o.v, v] S Q := by
  have c0 : (S.add (.cells o.v)).cells S.n = some o.v := by rw [cells_addc, if_pos rfl]
  have l0 : S.n < (S.add (.cells o.v)).n := by rw [St.add_n]; omega
  have hel : (encB o).length ≤ 100000000000000 := by
    have u1 := uvar_len10 ho.t
    have u2 := uvar_len10 (v := o.d.id.length) (by omega)
    have u3 := uvar_len10 (zig_lt ho.d.lo ho.d.hi)
    have u4 := uvar_len10 (v := o.d.tx.length) (by omega)
    simp only [encB, List.length_append, textB_len]
    omega
  have eo := eqOp o o
  rw [decide_eq_true rfl] at eo
  -- the last question: any bytes as an entry
  have last : ∀ (fr : Fr) (S2 : St), fr 1 = v → wCode (RSim Tryd.prog w0) r_l16_CopyCodes_0 fr S2 (resQ [.tmp 4] Q) := by
    intro fr S2 f1
    simp only [r_l16_CopyCodes_0, go_sem, f1]
    refine wi_call ?_
    simp only [go_sem]
    refine decode_runs hv (by omega) (fun o1 hd hok S3 k3 => ?_) fun hd S3 k3 => ?_
    · have eo1 := eqOp o1 o1
      rw [decide_eq_true rfl] at eo1
      have c3 : ((S3.add (.cells opZ)).set S3.n (.cells o1.v)).cells S3.n = some o1.v := by rw [cells_setc, if_pos rfl]
      have l3 : S3.n < ((S3.add (.cells opZ)).set S3.n (.cells o1.v)).n := by rw [St.set_n, St.add_n]; omega
      simp only [opZ, Op.v, Dc.v] at c3 l3 eo1
      simp only [Op.v, Dc.v]
      simp only [go_sem, f1]
      generalize (S3.add (.cells [.int .u64 0, .str (mkS []), .int .i64 0, .str (mkS [])])).set S3.n (.cells [.int .u64 (o1.t : Nat), .str (mkS o1.d.id), .int .i64 o1.d.tm, .str (mkS o1.d.tx)]) = S4 at *
      refine wi_call ?_
      simp only [go_sem]
      refine refDecode_runs hv hp (fun o2 hd2 hok2 S5 k5 => ?_) fun hd2 S5 k5 => ?_
      · rw [hd] at hd2
        injection hd2 with hd2
        subst hd2
        have c5 := k5.cells c3 l3 _root_.id
        have hne : ¬ S3.n = S5.n := by have := k5.n; omega
        simp only [Op.v, Dc.v]
        simp only [go_sem, c5, hne]
        exact hQ _
      · rw [hd] at hd2; cases hd2
    · have c3 : ((S3.add (.cells opZ)).set S3.n (.cells opZ)).cells S3.n = some opZ := by rw [cells_setc, if_pos rfl]
      have l3 : S3.n < ((S3.add (.cells opZ)).set S3.n (.cells opZ)).n := by rw [St.set_n, St.add_n]; omega
      simp only [opZ] at c3 l3 ⊢
      simp only [go_sem, f1]
      generalize (S3.add (.cells [.int .u64 0, .str (mkS []), .int .i64 0, .str (mkS [])])).set S3.n (.cells [.int .u64 0, .str (mkS []), .int .i64 0, .str (mkS [])]) = S4 at *
      refine wi_call ?_
      simp only [go_sem]
      refine refDecode_runs hv hp (fun o2 hd2 hok2 S5 k5 => ?_) fun hd2 S5 k5 => ?_
      · rw [hd] at hd2; cases hd2
      · have c5 := k5.cells c3 l3 _root_.id
        have hne : ¬ S3.n = S5.n := by have := k5.n; omega
        simp only [opZ]
        simp only [go_sem, c5, hne]
        exact hQ _
  -- the second one: what the document says of the entry's bytes
  have mid : ∀ (fr : Fr) (S2 : St) (e : Int), S2.cells S.n = some o.v → S.n < S2.n → fr 1 = v → fr 2 = .ptr (some (S.n, 0)) → fr 6 = .int .i64 e → (o.d.form = true ∧ e = 0 ∨ o.d.form = false ∧ e = 3) → wCode (RSim Tryd.prog w0) r_l16_CopyCodes_1 fr S2 (resQ [.tmp 4] Q) := by
    intro fr S2 e c2 l2 f1 f2 f6 he
    simp only [Op.v, Dc.v] at c2
    simp only [r_l16_CopyCodes_1, go_sem, f2, c2]
    refine wi_call ?_
    simp only [go_sem]
    refine refEncode_runs ho hi hx fun S3 v3 b3 k3 => ?_
    simp only [go_sem]
    refine wi_call ?_
    simp only [go_sem]
    refine refDecode_runs b3.is hel (fun o1 hd hok S4 k4 => ?_) fun hd S4 k4 => ?_
    · rcases he with ⟨hf, rfl⟩ | ⟨hf, rfl⟩
      · simp only [Op.v, Dc.v]
        simp only [go_sem, f6]
        refine wc_ite (b := false) (by simp only [go_sem] <;> rfl) (fun h => by cases h) (fun _ => ?_)
        simp only [go_sem]
        exact last _ _ (by simp only [go_sem, f1])
      · rw [dec_bad ho hf] at hd; cases hd
    · rcases he with ⟨hf, rfl⟩ | ⟨hf, rfl⟩
      · rw [dec_enc ho hf] at hd; cases hd
      · simp only [opZ]
        simp only [go_sem, f6]
        refine wc_ite (b := false) (by simp only [go_sem] <;> rfl) (fun h => by cases h) (fun _ => ?_)
        simp only [go_sem]
        exact last _ _ (by simp only [go_sem, f1])
  simp only [Op.v, Dc.v] at c0 l0 mid eo ⊢
  refine RSim.run mixed k_l16_CopyCodes ?_ (by simp)
  simp only [b_l16_CopyCodes, go_sem]
  generalize S.add (.cells [.int .u64 (o.t : Nat), .str (mkS o.d.id), .int .i64 o.d.tm, .str (mkS o.d.tx)]) = S0 at *
  refine wi_call ?_
  simp only [go_sem]
  refine copyAwake_runs fun S1 k1 => ?_
  have c1 := k1.cells c0 l0 (fun h => h)
  have l1 := k1.lt l0
  simp only [go_sem]
  refine wc_ite (b := false) (by simp only [go_sem] <;> rfl) (fun h => by cases h) (fun _ => ?_)
  simp only [go_sem, r_l16_CopyCodes_2, c1]
  refine wi_call ?_
  simp only [go_sem]
  refine encode_runs ho (fun hf S2 v2 b2 k2 => ?_) fun hf S2 k2 => ?_
  · have c2 := k2.cells c1 l1 (fun h => h)
    have l2 := k2.lt l1
    simp only [go_sem]
    refine wc_ite (b := true) (by simp only [go_sem] <;> rfl) (fun _ => ?_) (fun h => by cases h)
    simp only [go_sem]
    refine wi_call ?_
    simp only [go_sem]
    refine decode_runs b2.is (by omega) (fun o1 hd hok S3 k3 => ?_) fun hd S3 k3 => ?_
    · rw [dec_enc ho hf] at hd
      injection hd with hd
      subst hd
      have c3 := k3.cells c2 l2 (fun h => h)
      have l3 := k3.lt l2
      have cv : ∀ S, V.conv S .bytesStr v2 = some (.str (mkS (encB o))) := fun S => b2.is.convS S
      have hne : ¬ S.n = S3.n := by omega
      have c4 : ((S3.add (.cells [.int .u64 0, .str (mkS []), .int .i64 0, .str (mkS [])])).set S3.n (.cells [.int .u64 (o.t : Nat), .str (mkS o.d.id), .int .i64 o.d.tm, .str (mkS o.d.tx)])).cells S.n = some [.int .u64 (o.t : Nat), .str (mkS o.d.id), .int .i64 o.d.tm, .str (mkS o.d.tx)] := by
        rw [cells_setc, if_neg hne, cells_addc, if_neg hne]; exact c3
      have d4 : ((S3.add (.cells [.int .u64 0, .str (mkS []), .int .i64 0, .str (mkS [])])).set S3.n (.cells [.int .u64 (o.t : Nat), .str (mkS o.d.id), .int .i64 o.d.tm, .str (mkS o.d.tx)])).cells S3.n = some [.int .u64 (o.t : Nat), .str (mkS o.d.id), .int .i64 o.d.tm, .str (mkS o.d.tx)] := by
        rw [cells_setc, if_pos rfl]
      have l4 : S.n < ((S3.add (.cells [.int .u64 0, .str (mkS []), .int .i64 0, .str (mkS [])])).set S3.n (.cells [.int .u64 (o.t : Nat), .str (mkS o.d.id), .int .i64 o.d.tm, .str (mkS o.d.tx)])).n := by rw [St.set_n, St.add_n]; omega
      have m4 : S3.n < ((S3.add (.cells [.int .u64 0, .str (mkS []), .int .i64 0, .str (mkS [])])).set S3.n (.cells [.int .u64 (o.t : Nat), .str (mkS o.d.id), .int .i64 o.d.tm, .str (mkS o.d.tx)])).n := by rw [St.set_n, St.add_n]; omega
      simp only [Op.v, Dc.v]
      simp only [go_sem, cv, c3, hne]
      generalize (S3.add (.cells [.int .u64 0, .str (mkS []), .int .i64 0, .str (mkS [])])).set S3.n (.cells [.int .u64 (o.t : Nat), .str (mkS o.d.id), .int .i64 o.d.tm, .str (mkS o.d.tx)]) = S4 at *
      refine wi_call ?_
      simp only [go_sem]
      refine refEncode_runs ho hi hx fun S5 v5 b5 k5 => ?_
      have c5 := k5.cells c4 l4 _root_.id
      have d5 := k5.cells d4 m4 _root_.id
      have l5 := k5.lt l4
      have cv5 : ∀ S, V.conv S .bytesStr v5 = some (.str (mkS (encB o))) := fun S => b5.is.convS S
      simp only [go_sem, cv, cv5, c5, d5]
      refine wc_ite (b := false) (by simp only [go_sem] <;> rfl) (fun h => by cases h) (fun _ => ?_)
      simp only [go_sem]
      exact mid _ _ 0 c5 l5 (by simp only [go_sem]) (by simp only [go_sem]) (by simp only [go_sem]) (.inl ⟨hf, rfl⟩)
    · rw [dec_enc ho hf] at hd; cases hd
  · have c2 := k2.cells c1 l1 (fun h => h)
    have l2 := k2.lt l1
    have z : ((0 : Nat) : Int) = 0 := rfl
    simp only [go_sem]
    refine wc_ite (b := false) (by simp only [go_sem] <;> rfl) (fun h => by cases h) (fun _ => ?_)
    simp only [go_sem, z]
    refine wc_ite (b := false) (by simp only [go_sem] <;> rfl) (fun h => by cases h) (fun _ => ?_)
    simp only [go_sem]
    exact mid _ _ 3 c2 l2 (by simp only [go_sem]) (by simp only [go_sem]) (by simp only [go_sem]) (.inr ⟨hf, rfl⟩)
end Go.VM
