/-
  The document's copy: which entries are of the form; Serve, Append. A copy is the document's.
  The document's copy: Hear, Adopt; a call of both. NEWPP
-/
import Derived.Test.YtegaflmefmlpgaaGreatDoorCAt
import Derived.Test.YtegaflmefmlpgaaGreatDoorCMark
set_option maxRecDepth 20000
set_option linter.unusedVariables false
set_option linter.unusedSimpArgs false
namespace Go.VM
open Go Go.RowKit Go.Proofs

theorem refForm_runs {w0 : World} {S : St} {Q : AEnd → St → Prop} {d : Dc} (hd : d.Ok) (hQ : ∀ S', Keeps (fun _ => False) S S' → Q (.ret (.bool d.form)) S') : RSim Tryz.prog w0 n_r07_Form [.agg d.v] S Q := by
  obtain ⟨id, tm, tx⟩ := d
  obtain ⟨_, _, hi, hx⟩ := hd
  simp only at hi hx
  simp only [Dc.v]
  have q1 : decide ((id.length : Int) < 1) = !decide (1 ≤ id.length) := by rw [← decide_not]; exact decide_eq_decide.mpr (by omega)
  have q2 : decide ((id.length : Int) > 32) = !decide (id.length ≤ 32) := by rw [← decide_not]; exact decide_eq_decide.mpr (by omega)
  have q3 : decide ((tx.length : Int) > 512) = !decide (tx.length ≤ 512) := by rw [← decide_not]; exact decide_eq_decide.mpr (by omega)
  have kk := (Keeps.refl (fun _ => False) S).add (.cells [.str (mkS id), .int .i64 tm, .str (mkS tx)])
  have hq : ∀ b, (id.all idB = b ∨ (b = false ∧ (decide (1 ≤ id.length) && decide (id.length ≤ 32) && decide (tx.length ≤ 512)) = false)) → (b = true → (decide (1 ≤ id.length) && decide (id.length ≤ 32) && decide (tx.length ≤ 512)) = true) → Q (.ret (.bool b)) (S.add (.cells [.str (mkS id), .int .i64 tm, .str (mkS tx)])) := fun b h h2 => by
    have := hQ _ kk
    unfold Dc.form at this
    simp only at this
    rcases h with h | ⟨h, h3⟩
    · rw [h] at this
      cases b with
      | false => exact this
      | true => rw [h2 rfl] at this; exact this
    · rw [h3, Bool.and_false] at this
      rw [h]; exact this
  by_cases hlen : (decide (1 ≤ id.length) && decide (id.length ≤ 32) && decide (tx.length ≤ 512)) = true
  · have hl := hlen
    simp only [Bool.and_eq_true, decide_eq_true_eq] at hl
    rw [decide_eq_true hl.1.1] at q1
    rw [decide_eq_true hl.1.2] at q2
    rw [decide_eq_true hl.2] at q3
    refine RSim.run mixed k_r07_Form ?_ (by simp)
    simp only [b_r07_Form, go_sem, q1, q2, q3]
    refine wc_ite (b := false) (by simp only [go_sem] <;> rfl) (fun h => by cases h) (fun _ => ?_)
    simp only [go_sem]
    refine loop_rule RSim.le (k := id.length) (fun m fr S1 => ∃ j : Nat, m = id.length - j ∧ j ≤ id.length ∧ S1 = S.add (.cells [.str (mkS id), .int .i64 tm, .str (mkS tx)]) ∧ fr 1 = .ptr (some (S.n, 0)) ∧ fr 3 = .int .i64 j ∧ (id.take j).all idB = true) ?_
      ⟨0, rfl, Nat.zero_le _, rfl, by simp only [go_sem], by simp only [go_sem, Int.natCast_zero], by simp⟩
    rintro m fr S1 ⟨j, hm, hj, hS, f1, f3, ha⟩
    subst hm; subst hS
    simp only [l_r07_Form_0, go_sem, f1, f3]
    refine wc_ite (b := decide ((j : Int) < id.length)) (by simp only [go_sem]) (fun hc => ?_) (fun hc => ?_)
    · have hj2 : j < id.length := by have := of_decide_eq_true hc; omega
      have hb : id[j]? = some (id[j]'hj2) := List.getElem?_eq_getElem hj2
      generalize id[j] = b at hb
      have hw : IntKind.i64.wrap ((j : Int) + 1) = ((j + 1 : Nat) : Int) := by rw [w64 (by omega) (by omega)]; omega
      have q4 : decide ((b.toNat : Int) < 33) = !decide (33 ≤ b.toNat) := by
        rw [← decide_not]; exact decide_eq_decide.mpr (by omega)
      have q5 : decide ((b.toNat : Int) > 126) = !decide (b.toNat ≤ 126) := by
        rw [← decide_not]; exact decide_eq_decide.mpr (by omega)
      have ht := all_take (p := idB) hb
      have hf0 := all_false (p := idB) hb
      rw [ha, Bool.true_and] at ht
      have hib : idB b = (decide (33 ≤ b.toNat) && decide (b.toNat ≤ 126)) := rfl
      rw [hib] at ht hf0
      generalize decide (33 ≤ b.toNat) = c1 at *
      generalize decide (b.toNat ≤ 126) = c2 at *
      cases c1 <;> cases c2
      rotate_left 3
      all_goals simp only [go_sem, f1, f3, hb, q4, q5]
      · refine wc_ite (b := false) (by simp only [go_sem] <;> rfl) (fun h => by cases h) (fun _ => ?_)
        simp only [go_sem, hw, f3]
        exact ⟨id.length - (j + 1), by omega, j + 1, rfl, by omega, f1, rfl, ht⟩
      all_goals
        refine wc_ite (b := true) (by simp only [go_sem] <;> rfl) (fun _ => ?_) (fun h => by cases h)
        simp only [go_sem]
        exact hq false (.inl (hf0 rfl)) (fun h => by cases h)
    · have hj2 : j = id.length := by have := of_decide_eq_false hc; omega
      subst hj2
      rw [List.take_length] at ha
      simp only [go_sem]
      exact hq true (.inl ha) fun _ => hlen
  · have hl : (decide (1 ≤ id.length) && decide (id.length ≤ 32) && decide (tx.length ≤ 512)) = false := by simpa using hlen
    have hq0 := hq false (.inr ⟨rfl, hl⟩) (fun h => by cases h)
    clear hq hQ hlen
    generalize decide (1 ≤ id.length) = c1 at *
    generalize decide (id.length ≤ 32) = c2 at *
    generalize decide (tx.length ≤ 512) = c3 at *
    cases c1 <;> cases c2 <;> cases c3
    rotate_left 7
    · simp at hl
    all_goals
      refine RSim.run mixed k_r07_Form ?_ (by simp)
      simp only [b_r07_Form, go_sem, q1, q2, q3]
      refine wc_ite (b := true) (by simp only [go_sem] <;> rfl) (fun _ => ?_) (fun h => by cases h)
      simp only [go_sem]
      exact hq0

/-- The document's copy in memory. -/
structure RefC (S : St) (x : Nat) (tk : Tok) (T : Tm) (L : List Op) : Prop where
  ex : S.cells x = some [.int .u64 (T.h : Nat), .int .u64 (T.s : Nat), .int .u64 (T.a : Nat), opsV L tk]
  nil : tk = .nil → L = []
  lt : x < S.n
  tok : TokOk S tk
  ok : T.Ok
  l : ∀ o ∈ L, o.Ok
  n : L.length ≤ 1000000
def ownX (x : Nat) (tk : Tok) : Nat → Prop := fun j => j = x ∨ tk = .at j
theorem RefC.keep {S S' : St} {x : Nat} {tk : Tok} {T : Tm} {L : List Op} {o : Nat → Prop} (h : RefC S x tk T L) (k : Keeps o S S') (ho : ∀ j, ownX x tk j → ¬ o j) : RefC S' x tk T L :=
  ⟨k.cells h.ex h.lt (ho x (.inl rfl)), h.nil, k.lt h.lt, h.tok.keep k fun j hj => ho j (.inr hj), h.ok, h.l, h.n⟩
theorem RefC.stay {S S' : St} {x : Nat} {tk : Tok} {T : Tm} {L : List Op} (h : RefC S x tk T L) (k : Keeps (fun _ => False) S S') : RefC S' x tk T L := h.keep k fun _ _ => id
theorem RefC.tk_ne {S : St} {x : Nat} {tk : Tok} {T : Tm} {L : List Op} (h : RefC S x tk T L) : tk ≠ .at x := tok_cells h.tok (hp_cells h.ex) (by simp)
structure XAfter (S : St) (x : Nat) (tk : Tok) (S' : St) (tk' : Tok) (T : Tm) (L : List Op) : Prop where
  w : RefC S' x tk' T L
  k : Keeps (ownX x tk) S S'
  o : ∀ j, ownX x tk' j → ownX x tk j ∨ S.n ≤ j
theorem RefC.setT {S : St} {x : Nat} {tk : Tok} {T T' : Tm} {L : List Op} (h : RefC S x tk T L) (hT : T'.Ok) {cs : List V} (hcs : cs = [.int .u64 (T'.h : Nat), .int .u64 (T'.s : Nat), .int .u64 (T'.a : Nat), opsV L tk]) : XAfter S x tk (S.set x (.cells cs)) tk T' L := by
  subst hcs
  have k := Keeps.set1 S x (.cells [.int .u64 (T'.h : Nat), .int .u64 (T'.s : Nat), .int .u64 (T'.a : Nat), opsV L tk])
  exact ⟨⟨by rw [cells_setc, if_pos rfl], h.nil, h.lt, h.tok.keep k fun j hj e => h.tk_ne (by rw [hj, e]), hT, h.l, h.n⟩, k.mono fun _ _ e => .inl e, fun _ h => .inl h⟩
theorem RefC.setL {S S4 : St} {x : Nat} {tk tk4 : Tok} {T T' : Tm} {L L' : List Op} (h : RefC S x tk T L) (hT : T'.Ok) (k : Keeps (tokOwn tk) S S4) (ht : TokOk S4 tk4) (hn : ∀ j, tk4 = .at j → S.n ≤ j) (hz : tk4 = .nil → L' = []) (hL : ∀ o ∈ L', o.Ok) (hl : L'.length ≤ 1000000)
    {cs : List V} (hcs : cs = [.int .u64 (T'.h : Nat), .int .u64 (T'.s : Nat), .int .u64 (T'.a : Nat), opsV L' tk4]) : XAfter S x tk (S4.set x (.cells cs)) tk4 T' L' := by
  subst hcs
  have hx := h.lt
  have k1 := Keeps.set1 S4 x (.cells [.int .u64 (T'.h : Nat), .int .u64 (T'.s : Nat), .int .u64 (T'.a : Nat), opsV L' tk4])
  have kk : Keeps (ownX x tk) S (S4.set x (.cells [.int .u64 (T'.h : Nat), .int .u64 (T'.s : Nat), .int .u64 (T'.a : Nat), opsV L' tk4])) :=
    (k.mono fun j _ (hj : tokOwn tk j) => by cases tk <;> simp [tokOwn] at hj; exact .inr (by rw [hj])).set (.inl (.inl rfl)) _
  refine ⟨⟨by rw [cells_setc, if_pos rfl], hz, kk.lt hx, ht.keep k1 fun j hj e => by have := hn j hj; omega, hT, hL, hl⟩, kk, fun j hj => ?_⟩
  rcases hj with rfl | hj
  · exact .inl (.inl rfl)
  · exact .inr (hn j hj)
theorem XAfter.refl {S : St} {x : Nat} {tk : Tok} {T : Tm} {L : List Op} (h : RefC S x tk T L) : XAfter S x tk S tk T L := ⟨h, Keeps.refl _ _, fun _ h => .inl h⟩
theorem XAfter.new {S S' : St} {x : Nat} {tk : Tok} {T : Tm} {L : List Op} (h : RefC S x tk T L) (k : Keeps (fun _ => False) S S') : XAfter S x tk S' tk T L := ⟨h.stay k, k.mono fun _ _ h => h.elim, fun _ h => .inl h⟩
theorem XAfter.trans {S S1 S2 : St} {x : Nat} {tk k1 k2 : Tok} {T1 T2 : Tm} {L1 L2 : List Op} (h : XAfter S x tk S1 k1 T1 L1) (h' : XAfter S1 x k1 S2 k2 T2 L2) : XAfter S x tk S2 k2 T2 L2 :=
  ⟨h'.w, h.k.trans h'.k fun j hj ho => (h.o j ho).elim id fun h => by omega, fun j hj => (h'.o j hj).elim (h.o j) fun h1 => .inr (Nat.le_trans h.k.n h1)⟩

/-- The document's calls. -/
def docServe (T : Tm) (n : Nat) : Int × Tm := if n < T.h ∨ n ≤ T.s then (12, T) else (0, ⟨n, n, n⟩)
def docHear (T : Tm) (n : Nat) : Int × Tm := if n < T.h then (12, T) else (0, ⟨n, T.s, T.a⟩)
def docApp (T : Tm) (L : List Op) (o : Op) : Int × List Op := if o.d.form = false then (3, L) else if o.t ≠ T.h ∨ o.t ≠ T.a then (12, L) else (0, L ++ [o])

theorem refServe_runs {w0 : World} {S : St} {Q : AEnd → St → Prop} {x n : Nat} {tk : Tok} {T : Tm} {L : List Op} (h : RefC S x tk T L) (hn : n < 18446744073709551616)
    (hQ : ∀ S', XAfter S x tk S' tk (docServe T n).2 L → Q (.ret (.int .i64 (docServe T n).1)) S') : RSim Tryz.prog w0 n_r16_Copy_Serve [.ptr (some (x, 0)), .int .u64 n] S Q := by
  have ex := h.ex
  unfold docServe at hQ
  have q1 : decide ((n : Int) < (T.h : Int)) = decide (n < T.h) := decide_eq_decide.mpr (by omega)
  have q2 : decide ((n : Int) ≤ (T.s : Int)) = decide (n ≤ T.s) := decide_eq_decide.mpr (by omega)
  by_cases hbad : n < T.h ∨ n ≤ T.s
  · rw [if_pos hbad] at hQ
    by_cases h1 : n < T.h
    · rw [decide_eq_true h1] at q1
      refine RSim.run mixed k_r16_Copy_Serve ?_ (by simp)
      simp only [b_r16_Copy_Serve, go_sem, ex, q1]
      refine wc_ite (b := true) (by simp only [go_sem] <;> rfl) (fun _ => ?_) (fun h => by cases h)
      simp only [go_sem]
      exact hQ S (XAfter.refl h)
    · rw [decide_eq_false h1] at q1
      rw [decide_eq_true (hbad.resolve_left h1)] at q2
      refine RSim.run mixed k_r16_Copy_Serve ?_ (by simp)
      simp only [b_r16_Copy_Serve, go_sem, ex, q1, q2]
      refine wc_ite (b := true) (by simp only [go_sem] <;> rfl) (fun _ => ?_) (fun h => by cases h)
      simp only [go_sem]
      exact hQ S (XAfter.refl h)
  · rw [if_neg hbad] at hQ
    rw [decide_eq_false fun h => hbad (.inl h)] at q1
    rw [decide_eq_false fun h => hbad (.inr h)] at q2
    refine RSim.run mixed k_r16_Copy_Serve ?_ (by simp)
    simp only [b_r16_Copy_Serve, go_sem, ex, q1, q2]
    refine wc_ite (b := false) (by simp only [go_sem] <;> rfl) (fun h => by cases h) (fun _ => ?_)
    simp only [go_sem, ex]
    exact hQ _ (h.setT (T' := ⟨n, n, n⟩) ⟨hn, hn, hn⟩ rfl)

theorem refApp_runs {w0 : World} {S : St} {Q : AEnd → St → Prop} {x : Nat} {tk : Tok} {T : Tm} {L : List Op} {o : Op} (h : RefC S x tk T L) (ho : o.Ok) (hl : L.length < 1000000)
    (hQ : ∀ S' tk', XAfter S x tk S' tk' T (docApp T L o).2 → Q (.ret (.int .i64 (docApp T L o).1)) S') : RSim Tryz.prog w0 n_r16_Copy_Append [.ptr (some (x, 0)), .agg o.v] S Q := by
  have ex := h.ex
  have hx := h.lt
  have hne : ¬ x = S.n := by omega
  have k0 : Keeps (fun _ => False) S (S.add (.cells o.v)) := (Keeps.refl _ S).add _
  have h0 := XAfter.new h k0
  have c0 : (S.add (.cells o.v)).cells S.n = some o.v := by rw [cells_addc, if_pos rfl]
  have l0 : S.n < (S.add (.cells o.v)).n := by rw [St.add_n]; omega
  unfold docApp at hQ
  simp only [Op.v, Dc.v] at c0 l0 k0 h0 ⊢
  refine RSim.run mixed k_r16_Copy_Append ?_ (by simp)
  simp only [b_r16_Copy_Append, go_sem]
  generalize S.add (.cells [.int .u64 (o.t : Nat), .str (mkS o.d.id), .int .i64 o.d.tm, .str (mkS o.d.tx)]) = S0 at *
  refine wi_call ?_
  simp only [go_sem]
  refine refForm_runs (d := o.d) ho.d fun S1 k1 => ?_
  have h1 := h0.trans (XAfter.new h0.w k1)
  have c1 := k1.cells c0 l0 _root_.id
  have ex1 := h1.w.ex
  cases hf : o.d.form with
  | false =>
    rw [if_pos hf] at hQ
    simp only [go_sem]
    refine wc_ite (b := true) (by simp only [go_sem] <;> rfl) (fun _ => ?_) (fun h => by cases h)
    simp only [go_sem]
    exact hQ S1 tk h1
  | true =>
    rw [if_neg (by rw [hf]; simp)] at hQ
    simp only [go_sem]
    refine wc_ite (b := false) (by simp only [go_sem] <;> rfl) (fun h => by cases h) (fun _ => ?_)
    have q1 : ((o.t : Int) != (T.h : Int)) = decide (o.t ≠ T.h) := by rw [Bool.eq_iff_iff, bne_iff_ne, decide_eq_true_iff]; omega
    have q2 : ((o.t : Int) != (T.a : Int)) = decide (o.t ≠ T.a) := by rw [Bool.eq_iff_iff, bne_iff_ne, decide_eq_true_iff]; omega
    by_cases hbad : o.t ≠ T.h ∨ o.t ≠ T.a
    · rw [if_pos hbad] at hQ
      by_cases hb1 : o.t ≠ T.h
      · rw [decide_eq_true hb1] at q1
        simp only [go_sem, c1, ex1, q1]
        refine wc_ite (b := true) (by simp only [go_sem] <;> rfl) (fun _ => ?_) (fun h => by cases h)
        simp only [go_sem]
        exact hQ S1 tk h1
      · rw [decide_eq_false hb1] at q1
        rw [decide_eq_true (hbad.resolve_left hb1)] at q2
        simp only [go_sem, c1, ex1, q1, q2]
        refine wc_ite (b := true) (by simp only [go_sem] <;> rfl) (fun _ => ?_) (fun h => by cases h)
        simp only [go_sem]
        exact hQ S1 tk h1
    · rw [if_neg hbad] at hQ
      rw [decide_eq_false fun h => hbad (.inl h)] at q1
      rw [decide_eq_false fun h => hbad (.inr h)] at q2
      simp only [go_sem, c1, ex1, q1, q2]
      refine wc_ite (b := false) (by simp only [go_sem] <;> rfl) (fun h => by cases h) (fun _ => ?_)
      simp only [go_sem, c1, ex1]
      refine wi_append (n := L.length) (cs := L.flatMap Op.v) (t := tk) (m := 1) (xs := o.v) (by simp only [go_sem]; rfl) (by simp only [go_sem]; rfl) rfl (by simp [roomOk]; omega) h1.w.tok (fun e => by rw [h.nil e]; exact ⟨rfl, rfl⟩) fun tk5 S5 k5 ht5 hn5 hz5 => ?_
      have ex5 := k5.cells ex1 h1.w.lt (h1.w.tok.not_own ex1)
      simp only [go_sem, ex5]
      have e5 : V.sl (L.flatMap Op.v ++ o.v) (L.length + 1) 4 tk5 = opsV (L ++ [o]) tk5 := by simp [opsV]
      rw [e5]
      exact hQ _ tk5 (h1.trans (h1.w.setL (L' := L ++ [o]) h.ok k5 ht5 hn5 (fun e => absurd (hz5 e).1 (by decide)) (fun o' ho' => (List.mem_append.1 ho').elim (h.l o') fun h => by rw [List.mem_singleton.1 h]; exact ho) (by simp; omega) rfl))

/-- Two histories held against each other. -/
theorem eqOp (a b : Op) : eqA [.int, .str, .int, .str] (.agg a.v) (.agg b.v) = some (decide (a = b)) := by
  obtain ⟨t, ⟨i, m, x⟩⟩ := a
  obtain ⟨t', ⟨i', m', x'⟩⟩ := b
  simp only [Op.v, Dc.v, eqA, List.length_cons, List.length_nil, and_self, if_true, eqLs_int, eqLs_str, eqLs_nil]
  by_cases h1 : t = t'
  · by_cases h2 : i = i'
    · by_cases h3 : m = m'
      · by_cases h4 : x = x'
        · subst h1 h2 h3 h4; simp
        · simp [h1, h2, h3, h4]
      · simp [h1, h2, h3]
    · simp [h1, h2]
  · have : ¬ (t : Int) = (t' : Int) := by omega
    simp [h1, this]
theorem opsV_at {L : List Op} {j : Nat} {o : Op} (h : L[j]? = some o) : (L.flatMap Op.v).drop (j * 4) = o.v ++ (L.drop (j + 1)).flatMap Op.v := fm_at Op.v_len h
theorem refSame_runs {w0 : World} {S : St} {Q : AEnd → St → Prop} {A B : List Op} {ta tb : Tok} (ha : ta = .nil → A = []) (hb : tb = .nil → B = []) (hA : A.length ≤ 1000000)
    (hQ : Q (.ret (.bool (decide (A = B)))) S) : RSim Tryz.prog w0 n_r16_Same [opsV A ta, opsV B tb] S Q := by
  have hne : ((A.length : Int) != (B.length : Int)) = decide (A.length ≠ B.length) := by rw [Bool.eq_iff_iff, bne_iff_ne, decide_eq_true_iff]; omega
  unfold opsV
  by_cases hl : A.length = B.length
  · rw [decide_eq_false (by simpa using hl)] at hne
    refine RSim.run mixed k_r16_Same ?_ (by simp)
    simp only [b_r16_Same, go_sem, hne]
    refine wc_ite (b := false) (by simp only [go_sem] <;> rfl) (fun h => by cases h) (fun _ => ?_)
    simp only [go_sem]
    refine loop_rule RSim.le (k := A.length) (fun m fr S1 => ∃ j : Nat, m = A.length - j ∧ j ≤ A.length ∧ S1 = S ∧ fr 0 = .sl (A.flatMap Op.v) A.length 4 ta ∧ fr 1 = .sl (B.flatMap Op.v) B.length 4 tb ∧ fr 5 = .int .i64 (j : Nat) ∧ A.take j = B.take j) ?_
      ⟨0, rfl, Nat.zero_le _, rfl, by simp only [go_sem], by simp only [go_sem], by simp only [go_sem]; rfl, by simp⟩
    rintro m fr S1 ⟨j, hm, hj, hS, f0, f1, f5, ht⟩
    subst hm; subst hS
    simp only [l_r16_Same_0, go_sem, f0, f1, f5]
    refine wc_ite (b := decide ((j : Int) < (A.length : Int))) (by simp only [go_sem]) (fun hc => ?_) (fun hc => ?_)
    · have hj2 : j < A.length := by have := of_decide_eq_true hc; omega
      obtain ⟨x, hx⟩ : ∃ x, A[j]? = some x := ⟨_, List.getElem?_eq_getElem hj2⟩
      obtain ⟨y, hy⟩ : ∃ y, B[j]? = some y := ⟨_, List.getElem?_eq_getElem (by omega)⟩
      have hw : IntKind.i64.wrap ((j : Int) + 1) = ((j + 1 : Nat) : Int) := by rw [w64 (by omega) (by omega)]; omega
      have dx := opsV_at hx
      have dy := opsV_at hy
      have ja : (j < A.length) = True := eq_true hj2
      have jb : (j < B.length) = True := eq_true (by omega)
      have na : (ta = .nil) = False := eq_false fun e => by rw [ha e] at hj2; simp at hj2
      have nb : (tb = .nil) = False := eq_false fun e => by rw [hb e] at hl; simp only [List.length_nil] at hl; omega
      simp only [Op.v, Dc.v, List.cons_append, List.nil_append] at dx dy
      have hqe : (if (x.t : Int) = (y.t : Int) then (if x.d.id = y.d.id then (if x.d.tm = y.d.tm then (if x.d.tx = y.d.tx then true else false) else false) else false) else false) = decide (x = y) := by
        have e := eqOp x y
        simp only [Op.v, Dc.v, eqA, List.length_cons, List.length_nil, and_self, if_true, eqLs_int, eqLs_str, eqLs_nil] at e
        rw [← Option.some_inj, ← e]
        split <;> (try split) <;> (try split) <;> (try split) <;> rfl
      by_cases hxy : x = y
      · rw [decide_eq_true hxy] at hqe
        simp only [go_sem, f0, f1, f5, dx, dy, ja, jb, na, nb, hqe]
        refine wc_ite (b := false) (by simp only [go_sem] <;> rfl) (fun h => by cases h) (fun _ => ?_)
        simp only [go_sem, f5, hw]
        refine ⟨A.length - (j + 1), by omega, j + 1, rfl, by omega, f0, f1, rfl, ?_⟩
        rw [take_snoc hx, take_snoc hy, ht, hxy]
      · rw [decide_eq_false hxy] at hqe
        simp only [go_sem, f0, f1, f5, dx, dy, ja, jb, na, nb, hqe]
        refine wc_ite (b := true) (by simp only [go_sem] <;> rfl) (fun _ => ?_) (fun h => by cases h)
        simp only [go_sem]
        rw [decide_eq_false fun e => hxy (by rw [e, hy] at hx; injection hx with hx; exact hx.symm)] at hQ
        exact hQ
    · have hje : j = A.length := by have := of_decide_eq_false hc; omega
      subst hje
      rw [List.take_length, hl, List.take_length] at ht
      rw [decide_eq_true ht] at hQ
      simp only [go_sem]
      exact hQ
  · rw [decide_eq_true hl] at hne
    refine RSim.run mixed k_r16_Same ?_ (by simp)
    simp only [b_r16_Same, go_sem, hne]
    refine wc_ite (b := true) (by simp only [go_sem] <;> rfl) (fun _ => ?_) (fun h => by cases h)
    simp only [go_sem]
    rw [decide_eq_false fun e => hl (by rw [e])] at hQ
    exact hQ
end Go.VM

namespace Go.VM
open Go Go.RowKit Go.Proofs

theorem beq_nat (n : Nat) : ((n : Int) == (n : Int)) = true := by simp
theorem same16_runs {w0 : World} {S : St} {Q : AEnd → St → Prop} {c i g x : Nat} {D : Dk} {s : List UInt8} {t tk tx : Tok} {X : CS} (h : CopyAt S c i g D s t tk X) (r : RefC S x tx X.T X.L)
    (hQ : ∀ S', Keeps (fun _ => False) S S' → Q (.ret (.bool true)) S') : RSim Tryz.prog w0 n_l16_same [.ptr (some (c, 0)), .ptr (some (x, 0))] S Q := by
  refine RSim.run mixed k_l16_same ?_ (by simp)
  simp only [b_l16_same, go_sem]
  refine wi_call ?_
  simp only [go_sem]
  refine copyTerms_runs h fun S1 k1 => ?_
  have r1 := r.stay k1
  have ex1 := r1.ex
  have l1 := r1.lt
  have hne : ¬ x = S1.n := by omega
  have k2 := k1.trans ((((Keeps.refl (fun _ => False) S1).add (.cells [.int .u64 0, .int .u64 0, .int .u64 0])).set (.inr (Nat.le_refl _)) (.cells [.int .u64 (X.T.h : Nat), .int .u64 (X.T.s : Nat), .int .u64 (X.T.a : Nat)]))) (fun _ _ => _root_.id)
  have b1 := beq_nat X.T.h
  have b2 := beq_nat X.T.s
  have b3 := beq_nat X.T.a
  have b4 := beq_nat X.L.length
  simp only [Tm.v]
  unfold opsV at ex1
  simp only [go_sem, ex1, hne, b1, b2, b3]
  have h2 := h.stay k2
  have r2 := r.stay k2
  generalize (S1.add (.cells [.int .u64 0, .int .u64 0, .int .u64 0])).set S1.n (.cells [.int .u64 (X.T.h : Nat), .int .u64 (X.T.s : Nat), .int .u64 (X.T.a : Nat)]) = S2 at *
  refine wi_call ?_
  simp only [go_sem]
  refine copyLen_runs h2 ?_
  have ex2 := r2.ex
  unfold opsV at ex2
  simp only [go_sem, ex2, b4]
  refine wi_call ?_
  simp only [go_sem]
  refine copyOps_runs h2 fun S3 tv hv k3 => ?_
  have r3 := r2.stay k3
  have ex3 := r3.ex
  unfold opsV at ex3
  have k3' := k2.trans k3 (fun _ _ => _root_.id)
  simp only [go_sem, ex3]
  refine wi_call ?_
  simp only [go_sem]
  refine refSame_runs hv r.nil h.ok.n ?_
  rw [decide_eq_true rfl]
  simp only [go_sem]
  exact hQ S3 k3'
end Go.VM

namespace Go.VM
open Go Go.RowKit Go.Proofs

theorem refHear_runs {w0 : World} {S : St} {Q : AEnd → St → Prop} {x n : Nat} {tk : Tok} {T : Tm} {L : List Op} (h : RefC S x tk T L) (hn : n < 18446744073709551616)
    (hQ : ∀ S', XAfter S x tk S' tk (docHear T n).2 L → Q (.ret (.int .i64 (docHear T n).1)) S') : RSim Tryz.prog w0 n_r16_Copy_Hear [.ptr (some (x, 0)), .int .u64 n] S Q := by
  have ex := h.ex
  unfold docHear at hQ
  have q1 : decide ((n : Int) < (T.h : Int)) = decide (n < T.h) := decide_eq_decide.mpr (by omega)
  refine RSim.run mixed k_r16_Copy_Hear ?_ (by simp)
  simp only [b_r16_Copy_Hear, go_sem, ex, q1]
  refine wc_ite (b := decide (n < T.h)) (by simp only [go_sem]) (fun hc => ?_) (fun hc => ?_)
  · have hlt := of_decide_eq_true hc
    rw [if_pos hlt] at hQ
    simp only [go_sem]
    exact hQ S (XAfter.refl h)
  · have hlt := of_decide_eq_false hc
    rw [if_neg hlt] at hQ
    simp only [go_sem, ex]
    exact hQ _ (h.setT (T' := ⟨n, T.s, T.a⟩) ⟨hn, h.ok.s, h.ok.a⟩ rfl)

def docAdopt (T : Tm) (L : List Op) (n : Nat) (l : List Op) : Int × Tm × List Op :=
  if n < T.h then (12, T, L) else if badL l = true then (3, T, L) else if n = T.a ∧ l.length ≤ L.length then (0, T, L) else (0, ⟨n, T.s, n⟩, l)
theorem refAdopt_runs {w0 : World} {S : St} {Q : AEnd → St → Prop} {x n : Nat} {tk tl : Tok} {T : Tm} {L M : List Op} (h : RefC S x tk T L) (hn : n < 18446744073709551616) (hM : ∀ o ∈ M, o.Ok) (hl : M.length ≤ 1000) (htl : tl = .nil → M = [])
    (hQ : ∀ S' tk', XAfter S x tk S' tk' (docAdopt T L n M).2.1 (docAdopt T L n M).2.2 → Q (.ret (.int .i64 (docAdopt T L n M).1)) S') : RSim Tryz.prog w0 n_r16_Copy_Adopt [.ptr (some (x, 0)), .int .u64 n, opsV M tl] S Q := by
  have ex := h.ex
  unfold docAdopt at hQ
  unfold opsV at ex ⊢
  have q1 : decide ((n : Int) < (T.h : Int)) = decide (n < T.h) := decide_eq_decide.mpr (by omega)
  refine RSim.run mixed k_r16_Copy_Adopt ?_ (by simp)
  simp only [b_r16_Copy_Adopt, go_sem, ex, q1]
  refine wc_ite (b := decide (n < T.h)) (by simp only [go_sem]) (fun hc => ?_) (fun hc => ?_)
  · have hlt := of_decide_eq_true hc
    rw [if_pos hlt] at hQ
    simp only [go_sem]
    exact hQ S tk (XAfter.refl h)
  · have hlt := of_decide_eq_false hc
    rw [if_neg hlt] at hQ
    simp only [go_sem]
    refine loop_rule RSim.le (k := M.length) (fun m fr Sa => ∃ (j : Nat), m = M.length - j ∧ j ≤ M.length ∧ fr 0 = .ptr (some (x, 0)) ∧ fr 1 = .int .u64 (n : Nat) ∧ fr 2 = .sl (M.flatMap Op.v) M.length 4 tl ∧ fr 7 = .int .i64 (j : Nat) ∧ badL (M.take j) = false ∧ Keeps (fun _ => False) S Sa) ?_
      ⟨0, rfl, by omega, by simp only [go_sem], by simp only [go_sem], by simp only [go_sem], by simp only [go_sem]; rfl, rfl, Keeps.refl _ _⟩
    rintro m fr Sa ⟨j, hm, hj, f0, f1, f2, f7, hbad, kA⟩
    simp only [l_r16_Copy_Adopt_0, go_sem, f0, f1, f2, f7]
    refine wc_ite (b := decide ((j : Int) < (M.length : Int))) (by simp only [go_sem]) (fun hc => ?_) (fun hc => ?_)
    · have hlt2 : j < M.length := by have := of_decide_eq_true hc; omega
      obtain ⟨o, ho⟩ : ∃ o, M[j]? = some o := ⟨_, List.getElem?_eq_getElem hlt2⟩
      have hoo := hM o (List.mem_of_getElem? ho)
      have dx := opsV_at ho
      have ja : (j < M.length) = True := eq_true hlt2
      have na : (tl = .nil) = False := eq_false fun e => by rw [htl e] at ho; cases ho
      have w1 : IntKind.i64.wrap ((j : Int) + 1) = ((j + 1 : Nat) : Int) := by rw [w64 (by omega) (by omega)]; omega
      simp only [Op.v, Dc.v, List.cons_append, List.nil_append] at dx
      simp only [go_sem, f2, f7, dx, ja, na]
      refine wi_call ?_
      simp only [go_sem]
      refine refForm_runs (d := o.d) hoo.d fun Sb kb => ?_
      cases hf : o.d.form with
      | false =>
        have hbl : badL M = true := List.any_eq_true.2 ⟨o, List.mem_of_getElem? ho, by rw [hf]; rfl⟩
        rw [if_pos hbl] at hQ
        simp only [go_sem]
        refine wc_ite (b := true) (by simp only [go_sem] <;> rfl) (fun _ => ?_) (fun h => by cases h)
        simp only [go_sem]
        exact hQ Sb tk (XAfter.new h (kA.trans kb (fun _ _ => _root_.id)))
      | true =>
        simp only [go_sem]
        refine wc_ite (b := false) (by simp only [go_sem] <;> rfl) (fun h => by cases h) (fun _ => ?_)
        simp only [go_sem, f7, w1]
        have ht : M.take (j + 1) = M.take j ++ [o] := take_snoc ho
        refine ⟨M.length - (j + 1), by omega, j + 1, rfl, by omega, f0, f1, f2, rfl, ?_, kA.trans kb (fun _ _ => _root_.id)⟩
        rw [ht, badL, List.any_append, ← badL, hbad]; simp [hf]
    · have hje : j = M.length := by have := of_decide_eq_false hc; omega
      subst hje
      rw [List.take_length] at hbad
      rw [if_neg (by rw [hbad]; simp)] at hQ
      have hA := XAfter.new h kA
      have exA := hA.w.ex
      have e1 : ((n : Int) == (T.a : Int)) = decide (n = T.a) := by rw [Bool.eq_iff_iff, beq_iff_eq, decide_eq_true_iff]; omega
      have e2 : decide ((M.length : Int) ≤ (L.length : Int)) = decide (M.length ≤ L.length) := decide_eq_decide.mpr (by omega)
      unfold opsV at exA
      have hT : (⟨n, T.s, n⟩ : Tm).Ok := ⟨hn, h.ok.s, hn⟩
      by_cases hsame : n = T.a ∧ M.length ≤ L.length
      · rw [if_pos hsame] at hQ
        rw [decide_eq_true hsame.1] at e1
        rw [decide_eq_true hsame.2] at e2
        simp only [go_sem, s_r16_Copy_Adopt_0, f0, f1, f2, exA, e1, e2]
        refine wc_ite (b := true) (by simp only [go_sem] <;> rfl) (fun _ => ?_) (fun h => by cases h)
        simp only [go_sem]
        exact hQ Sa tk hA
      · rw [if_neg hsame] at hQ
        have hor : decide (n = T.a) = false ∨ decide (n = T.a) = true ∧ decide (M.length ≤ L.length) = false := by
          by_cases hsn : n = T.a
          · exact .inr ⟨decide_eq_true hsn, decide_eq_false fun h => hsame ⟨hsn, h⟩⟩
          · exact .inl (decide_eq_false hsn)
        rcases hor with h1 | ⟨h1, h2⟩
        · rw [h1] at e1
          simp only [go_sem, s_r16_Copy_Adopt_0, f0, f1, f2, exA, e1]
          refine wc_ite (b := false) (by simp only [go_sem] <;> rfl) (fun h => by cases h) (fun _ => ?_)
          simp only [go_sem, f0, f1, f2, exA]
          have h6 := hA.w.setL (L' := []) (tk4 := .nil) hT (Keeps.refl _ Sa) trivial (fun j e => by cases e) (fun _ => rfl) (fun o h => by cases h) (by simp) rfl
          refine wi_append (n := 0) (cs := []) (t := .nil) (m := M.length) (xs := M.flatMap Op.v) (by simp only [go_sem]) (by simp only [go_sem]; exact opsV_elems M tl htl _) (fm_len Op.v_len _) (by simp [roomOk]; omega) trivial (fun _ => ⟨rfl, rfl⟩) fun tk5 S5 k5 ht5 hn5 hz5 => ?_
          have k50 : Keeps (fun _ => False) _ S5 := k5.mono fun _ _ h => by cases h
          have ex5 := k50.cells h6.w.ex h6.w.lt _root_.id
          simp only [go_sem, ex5]
          have h7 := h6.w.setL (L' := M) hT (k50.mono fun _ _ h => h.elim) ht5 hn5 (fun e => List.eq_nil_of_length_eq_zero (hz5 e).1) hM (by omega) rfl
          have h8 := hA.trans (h6.trans h7)
          have e5 : V.sl ([] ++ M.flatMap Op.v) (0 + M.length) 4 tk5 = opsV M tk5 := by rw [Nat.zero_add]; rfl
          exact hQ _ tk5 h8
        · rw [h1] at e1
          rw [h2] at e2
          simp only [go_sem, s_r16_Copy_Adopt_0, f0, f1, f2, exA, e1, e2]
          refine wc_ite (b := false) (by simp only [go_sem] <;> rfl) (fun h => by cases h) (fun _ => ?_)
          simp only [go_sem, f0, f1, f2, exA]
          have h6 := hA.w.setL (L' := []) (tk4 := .nil) hT (Keeps.refl _ Sa) trivial (fun j e => by cases e) (fun _ => rfl) (fun o h => by cases h) (by simp) rfl
          refine wi_append (n := 0) (cs := []) (t := .nil) (m := M.length) (xs := M.flatMap Op.v) (by simp only [go_sem]) (by simp only [go_sem]; exact opsV_elems M tl htl _) (fm_len Op.v_len _) (by simp [roomOk]; omega) trivial (fun _ => ⟨rfl, rfl⟩) fun tk5 S5 k5 ht5 hn5 hz5 => ?_
          have k50 : Keeps (fun _ => False) _ S5 := k5.mono fun _ _ h => by cases h
          have ex5 := k50.cells h6.w.ex h6.w.lt _root_.id
          simp only [go_sem, ex5]
          have h7 := h6.w.setL (L' := M) hT (k50.mono fun _ _ h => h.elim) ht5 hn5 (fun e => List.eq_nil_of_length_eq_zero (hz5 e).1) hM (by omega) rfl
          have h8 := hA.trans (h6.trans h7)
          have e5 : V.sl ([] ++ M.flatMap Op.v) (0 + M.length) 4 tk5 = opsV M tk5 := by rw [Nat.zero_add]; rfl
          exact hQ _ tk5 h8
end Go.VM
