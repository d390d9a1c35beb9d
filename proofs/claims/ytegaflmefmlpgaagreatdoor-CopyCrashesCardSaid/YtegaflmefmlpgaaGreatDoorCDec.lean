/-
  copy.Decode: bytes as an entry. NEWPP
-/
import Derived.Test.YtegaflmefmlpgaaGreatDoorCForm
import Derived.Test.YtegaflmefmlpgaaGreatDoorDChange
set_option maxRecDepth 20000
set_option linter.unusedVariables false
set_option linter.unusedSimpArgs false
namespace Go.VM
open Go Go.RowKit Go.Proofs

theorem wi_gen {cl : Cl} {fr : Fr} {S : St} {K : Fr → St → Prop} {Kp : V → St → Prop} {r : List Item} {D : St → Prop} (hD : D S) (h : ∀ S, D S → wItems cl r fr S K Kp) : wItems cl r fr S K Kp := h S hD

/-- Where a reader is, and whether all was well; what is read next: a number, a text. -/
def numD (bs : List UInt8) (a : Nat × Bool) : Nat × Nat × Bool :=
  match ruv 0 0 (bs.drop a.1) with
  | some (v, k) => (v, a.1 + k, a.2)
  | none => (0, bs.length, false)
def textD (most : Nat) (bs : List UInt8) (a : Nat × Bool) : List UInt8 × Nat × Bool :=
  match readT most (bs.drop a.1) with
  | .inr (s, k) => (s, a.1 + k, a.2)
  | .inl _ => ([], bs.length, false)

theorem number_runs {w0 : World} {S : St} {Q : AEnd → St → Prop} {A T O a : Nat} {ok : Bool} {v : V} {bs : List UInt8} (hv : IsBytes v bs) (hl : bs.length ≤ 1000000000000000) (c0 : S.cells A = some [v]) (c1 : S.cells T = some [.int .i64 a]) (c2 : S.cells O = some [.bool ok])
    (hAT : ¬ A = T) (hAO : ¬ A = O) (hTO : ¬ T = O) (ha : a ≤ bs.length)
    (hQ : ∀ S', S'.cells T = some [.int .i64 (numD bs (a, ok)).2.1] → S'.cells O = some [.bool (numD bs (a, ok)).2.2] → Keeps (fun j => j = T ∨ j = O) S S' → (numD bs (a, ok)).2.1 ≤ bs.length → (numD bs (a, ok)).1 < 18446744073709551616 → Q (.ret (.int .u64 (numD bs (a, ok)).1)) S') :
    RSim Tryz.prog w0 n_copy_Decode_1 [.ptr (some (A, 0)), .ptr (some (T, 0)), .ptr (some (O, 0))] S Q := by
  obtain ⟨t, rfl, ht⟩ := hv
  have hOT : ¬ O = T := fun h => hTO h.symm
  refine RSim.run mixed k_copy_Decode_1 ?_ (by simp)
  simp only [b_copy_Decode_1, go_sem, c0, c1]
  refine wi_call ?_
  simp only [go_sem]
  refine readUvarint_runs ha hl ht (fun n k hr hn hk => ?_) (fun hr => ?_)
  · unfold numD at hQ
    rw [hr] at hQ
    simp only [go_sem]
    refine wc_ite (b := false) (by simp only [go_sem] <;> rfl) (fun h => by cases h) (fun _ => ?_)
    simp only [go_sem, c1]
    refine hQ _ (by rw [cells_setc, if_pos rfl]) (by rw [cells_setc, if_neg hOT]; exact c2) ((Keeps.refl _ S).set (.inl (.inl rfl)) _) hk hn
  · unfold numD at hQ
    rw [hr] at hQ
    simp only [go_sem]
    refine wc_ite (b := true) (by simp only [go_sem] <;> rfl) (fun _ => ?_) (fun h => by cases h)
    simp only [go_sem, c0, c1, c2, hAO, hAT, hTO]
    refine hQ _ (by rw [cells_setc, if_pos rfl]) (by rw [cells_setc, if_neg hOT, cells_setc, if_pos rfl]) (((Keeps.refl _ S).set (.inl (.inr rfl)) _).set (.inl (.inl rfl)) _) (Nat.le_refl _) (show (0 : Nat) < 18446744073709551616 by decide)

theorem word_runs {w0 : World} {S : St} {Q : AEnd → St → Prop} {A T O a most : Nat} {ok : Bool} {v : V} {bs : List UInt8} (hv : IsBytes v bs) (hl : bs.length ≤ 1000000000000000) (hm : most ≤ 1000000) (c0 : S.cells A = some [v]) (c1 : S.cells T = some [.int .i64 a]) (c2 : S.cells O = some [.bool ok])
    (hAT : ¬ A = T) (hAO : ¬ A = O) (hTO : ¬ T = O) (ha : a ≤ bs.length)
    (hQ : ∀ S', S'.cells T = some [.int .i64 (textD most bs (a, ok)).2.1] → S'.cells O = some [.bool (textD most bs (a, ok)).2.2] → Keeps (fun j => j = T ∨ j = O) S S' → (textD most bs (a, ok)).2.1 ≤ bs.length → (textD most bs (a, ok)).1.length ≤ most → Q (.ret (.str (mkS (textD most bs (a, ok)).1))) S') :
    RSim Tryz.prog w0 n_copy_Decode_2 [.int .i64 most, .ptr (some (A, 0)), .ptr (some (T, 0)), .ptr (some (O, 0))] S Q := by
  obtain ⟨t, rfl, ht⟩ := hv
  have hOT : ¬ O = T := fun h => hTO h.symm
  refine RSim.run mixed k_copy_Decode_2 ?_ (by simp)
  simp only [b_copy_Decode_2, go_sem, c0, c1]
  refine wi_call ?_
  simp only [go_sem]
  refine readText_runs ha hl hm ht (fun s k hr hk hs => ?_) (fun e hr => ?_)
  · unfold textD at hQ
    rw [hr] at hQ
    simp only [go_sem]
    refine wc_ite (b := false) (by simp only [go_sem] <;> rfl) (fun h => by cases h) (fun _ => ?_)
    simp only [go_sem, c1]
    refine hQ _ (by rw [cells_setc, if_pos rfl]) (by rw [cells_setc, if_neg hOT]; exact c2) ((Keeps.refl _ S).set (.inl (.inl rfl)) _) hk hs
  · unfold textD at hQ
    rw [hr] at hQ
    have he : (e != 0) = true := by
      unfold readT at hr
      split at hr
      · injection hr with hr; subst hr; rfl
      · split at hr
        · injection hr with hr; subst hr; rfl
        · split at hr
          · injection hr with hr; subst hr; rfl
          · cases hr
    simp only [go_sem, he]
    refine wc_ite (b := true) (by simp only [go_sem] <;> rfl) (fun _ => ?_) (fun h => by cases h)
    simp only [go_sem, c0, c1, c2, hAO, hAT, hTO]
    refine hQ _ (by rw [cells_setc, if_pos rfl]) (by rw [cells_setc, if_neg hOT, cells_setc, if_pos rfl]) (((Keeps.refl _ S).set (.inl (.inr rfl)) _).set (.inl (.inl rfl)) _) (Nat.le_refl _) (Nat.zero_le _)

def decO (bs : List UInt8) : Op × Nat × Bool :=
  let n := numD bs (0, true)
  let i := textD 32 bs n.2
  let z := numD bs i.2
  let x := textD 512 bs z.2
  (⟨n.1, ⟨i.1, zagN z.1, x.1⟩⟩, x.2)
/-- The entry of some bytes. -/
def decB (bs : List UInt8) : Option Op := if (decO bs).2.2 = true ∧ (decO bs).2.1 = bs.length ∧ (decO bs).1.d.form = true then some (decO bs).1 else none

def opZ : List V := [.int .u64 0, .str (mkS []), .int .i64 0, .str (mkS [])]
structure DecAt (S S' : St) (v : V) (o : List V) (a : Nat) (ok : Bool) : Prop where
  c0 : S'.cells S.n = some [v]
  c1 : S'.cells (S.n + 1) = some opZ
  c2 : S'.cells (S.n + 1 + 1) = some o
  c3 : S'.cells (S.n + 1 + 1 + 1) = some [.int .i64 a]
  c4 : S'.cells (S.n + 1 + 1 + 1 + 1) = some [.bool ok]
  n : S.n + 5 ≤ S'.n
  k : Keeps (fun _ => False) S S'
theorem DecAt.read {S S' S'' : St} {v : V} {o : List V} {a a' : Nat} {ok ok' : Bool} (h : DecAt S S' v o a ok) (k : Keeps (fun j => j = S.n + 1 + 1 + 1 ∨ j = S.n + 1 + 1 + 1 + 1) S' S'') (h3 : S''.cells (S.n + 1 + 1 + 1) = some [.int .i64 a']) (h4 : S''.cells (S.n + 1 + 1 + 1 + 1) = some [.bool ok']) :
    DecAt S S'' v o a' ok' := by
  have hn := h.n
  exact ⟨k.cells h.c0 (by omega) (by omega), k.cells h.c1 (by omega) (by omega), k.cells h.c2 (by omega) (by omega), h3, h4, Nat.le_trans hn k.n, h.k.trans k fun i hi hj => by omega⟩
theorem DecAt.put {S S' : St} {v : V} {o : List V} {a : Nat} {ok : Bool} (h : DecAt S S' v o a ok) (o' : List V) : DecAt S (S'.set (S.n + 1 + 1) (.cells o')) v o' a ok := by
  have hn := h.n
  refine ⟨?_, ?_, ?_, ?_, ?_, hn, h.k.set (.inr (by omega)) _⟩ <;> rw [cells_setc]
  · rw [if_neg (by omega)]; exact h.c0
  · rw [if_neg (by omega)]; exact h.c1
  · rw [if_pos rfl]
  · rw [if_neg (by omega)]; exact h.c3
  · rw [if_neg (by omega)]; exact h.c4
theorem DecAt.same {S S' S'' : St} {v : V} {o : List V} {a : Nat} {ok : Bool} (h : DecAt S S' v o a ok) (k : Keeps (fun _ => False) S' S'') : DecAt S S'' v o a ok := by
  have hn := h.n
  exact h.read (k.mono fun _ _ h => h.elim) (k.cells h.c3 (by omega) _root_.id) (k.cells h.c4 (by omega) _root_.id)

theorem decode_runs {w0 : World} {S : St} {Q : AEnd → St → Prop} {v : V} {bs : List UInt8} (hv : IsBytes v bs) (hl : bs.length ≤ 1000000000000000)
    (hQ : ∀ o, decB bs = some o → o.Ok → ∀ S', Keeps (fun _ => False) S S' → Q (.ret (.tup [.agg o.v, .int .i64 0])) S')
    (hQ' : decB bs = none → ∀ S', Keeps (fun _ => False) S S' → Q (.ret (.tup [.agg opZ, .int .i64 3])) S') : RSim Tryz.prog w0 n_copy_Decode [v] S Q := by
  have n1 : ¬ S.n = S.n + 1 := by omega
  have n2 : ¬ S.n = S.n + 1 + 1 := by omega
  have n3 : ¬ S.n = S.n + 1 + 1 + 1 := by omega
  have n4 : ¬ S.n = S.n + 1 + 1 + 1 + 1 := by omega
  have n5 : ¬ S.n + 1 + 1 + 1 = S.n + 1 + 1 + 1 + 1 := by omega
  have m2 : ¬ S.n + 1 + 1 = S.n := by omega
  have m3 : ¬ S.n + 1 + 1 + 1 = S.n := by omega
  have m4 : ¬ S.n + 1 + 1 + 1 + 1 = S.n := by omega
  obtain ⟨t, rfl, ht⟩ := id hv
  refine RSim.run mixed k_copy_Decode ?_ (by simp)
  simp only [b_copy_Decode, go_sem, m2, m3, m4, n2, n3, n4]
  refine wi_gen (D := fun s => DecAt S s (.sl (bs.map u8V) bs.length 1 t) opZ 0 true) ?_ fun S1 D1 => ?_
  · refine ⟨?_, ?_, ?_, ?_, ?_, ?_, ?_⟩
    · simp only [go_sem, m2, m3, m4, n2, n3, n4]
    · simp only [go_sem, m2, m3, m4, n2, n3, n4]; rfl
    · simp only [go_sem, m2, m3, m4, n2, n3, n4]; rfl
    · simp only [go_sem, m2, m3, m4, n2, n3, n4]; rfl
    · simp only [go_sem, m2, m3, m4, n2, n3, n4]
    · simp only [go_sem, m2, m3, m4, n2, n3, n4]
    · exact ((((((((Keeps.refl _ S).add _).add _).add _).add _).add _).set (.inr (by omega)) _).set (.inr (by omega)) _).set (.inr (by omega)) _
  · have hn5 := n5
    unfold opZ at D1
    refine wi_callV (f := n_copy_Decode_1) (pre := []) (cap := [.ptr (some (S.n, 0)), .ptr (some (S.n + 1 + 1 + 1, 0)), .ptr (some (S.n + 1 + 1 + 1 + 1, 0))]) (by simp only [go_sem]) ?_
    simp only [go_sem]
    refine number_runs hv hl D1.c0 D1.c3 D1.c4 n3 n4 n5 (Nat.zero_le _) fun S2 h3 h4 k hle hlt => ?_
    rcases hr1 : numD bs (0, true) with ⟨x1, a1, o1⟩
    rw [hr1] at h3 h4 hle hlt
    simp only at h3 h4 hle hlt
    have D2 := D1.read k h3 h4
    have c2 := D2.c2
    clear h3 h4 k
    simp only [go_sem, c2]
    refine wi_gen (D := fun s => DecAt S s _ _ a1 o1) (D2.put _) fun S3 D3 => ?_
    refine wi_callV (f := n_copy_Decode_2) (pre := []) (cap := [.ptr (some (S.n, 0)), .ptr (some (S.n + 1 + 1 + 1, 0)), .ptr (some (S.n + 1 + 1 + 1 + 1, 0))]) (by simp only [go_sem]) ?_
    simp only [go_sem]
    refine word_runs (most := 32) hv hl (by decide) D3.c0 D3.c3 D3.c4 n3 n4 n5 hle fun S4 h3 h4 k hle2 hlt2 => ?_
    rcases hr2 : textD 32 bs (a1, o1) with ⟨x2, a2, o2⟩
    rw [hr2] at h3 h4 hle2 hlt2
    simp only at h3 h4 hle2 hlt2
    have D4 := D3.read k h3 h4
    have c4 := D4.c2
    clear h3 h4 k
    simp only [go_sem, c4]
    refine wi_gen (D := fun s => DecAt S s _ _ a2 o2) (D4.put _) fun S5 D5 => ?_
    refine wi_callV (f := n_copy_Decode_1) (pre := []) (cap := [.ptr (some (S.n, 0)), .ptr (some (S.n + 1 + 1 + 1, 0)), .ptr (some (S.n + 1 + 1 + 1 + 1, 0))]) (by simp only [go_sem]) ?_
    simp only [go_sem]
    refine number_runs hv hl D5.c0 D5.c3 D5.c4 n3 n4 n5 hle2 fun S6 h3 h4 k hle3 hlt3 => ?_
    rcases hr3 : numD bs (a2, o2) with ⟨x3, a3, o3⟩
    rw [hr3] at h3 h4 hle3 hlt3
    simp only at h3 h4 hle3 hlt3
    have D6 := D5.read k h3 h4
    have c6 := D6.c2
    clear h3 h4 k
    simp only [go_sem]
    refine wi_call ?_
    simp only [go_sem]
    refine zag_runs hlt3 ?_
    simp only [go_sem, c6]
    refine wi_gen (D := fun s => DecAt S s _ _ a3 o3) (D6.put _) fun S7 D7 => ?_
    refine wi_callV (f := n_copy_Decode_2) (pre := []) (cap := [.ptr (some (S.n, 0)), .ptr (some (S.n + 1 + 1 + 1, 0)), .ptr (some (S.n + 1 + 1 + 1 + 1, 0))]) (by simp only [go_sem]) ?_
    simp only [go_sem]
    refine word_runs (most := 512) hv hl (by decide) D7.c0 D7.c3 D7.c4 n3 n4 n5 hle3 fun S8 h3 h4 k hle4 hlt4 => ?_
    rcases hr4 : textD 512 bs (a3, o3) with ⟨x4, a4, o4⟩
    rw [hr4] at h3 h4 hle4 hlt4
    simp only at h3 h4 hle4 hlt4
    have D8 := D7.read k h3 h4
    have c8 := D8.c2
    clear h3 h4 k
    have D9 := D8.put [.int .u64 (x1 : Nat), .str (mkS x2), .int .i64 (zagN x3), .str (mkS x4)]
    have hO : decO bs = (⟨x1, ⟨x2, zagN x3, x4⟩⟩, a4, o4) := by simp only [decO, hr1, hr2, hr3, hr4]
    have e0 := D8.c0
    have e1 := D8.c1
    have e3 := D8.c3
    have e4 := D8.c4
    unfold opZ at e1
    have kz := fun S' (h : Keeps (fun _ => False) S S') => h.set (.inr (show S.n ≤ S.n + 1 by omega)) (.cells opZ)
    have hbad : ∀ S', Keeps (fun _ => False) S S' → (o4 = false ∨ a4 ≠ bs.length ∨ Dc.form ⟨x2, zagN x3, x4⟩ = false) → Q (.ret (.tup [.agg opZ, .int .i64 3])) (S'.set (S.n + 1) (.cells opZ)) := fun S' k h => by
      refine hQ' ?_ _ (kz S' k)
      unfold decB
      rw [hO]
      refine if_neg fun h' => ?_
      rcases h with h | h | h
      · rw [h] at h'; cases h'.1
      · exact h h'.2.1
      · have := h'.2.2; rw [h] at this; cases this
    unfold opZ at hbad
    cases o4 with
    | false =>
      have hq := hbad _ D9.k (.inl rfl)
      simp only [go_sem, c8, e0, e1, e3, e4, m2, m3, m4, n1, n2, n3, n4]
      refine wc_ite (b := true) (by simp only [go_sem] <;> rfl) (fun _ => ?_) (fun h => by cases h)
      simp only [go_sem, c8, e0, e1, e3, e4, m2, m3, m4, n1, n2, n3, n4]
      exact hq
    | true =>
      by_cases ha : a4 = bs.length
      · have neq : ((a4 : Int) != (bs.length : Int)) = false := by rw [ha]; simp
        simp only [go_sem, c8, e0, e1, e3, e4, m2, m3, m4, n1, n2, n3, n4, neq]
        refine wi_call ?_
        simp only [go_sem]
        refine form_runs (d := ⟨x2, zagN x3, x4⟩) ⟨(zag_rng hlt3).1, (zag_rng hlt3).2, by simp only; omega, by simp only; omega⟩ fun Sa ka => ?_
        have Da := D9.same ka
        have f1 := Da.c1
        have f2 := Da.c2
        unfold opZ at f1
        cases hf : Dc.form ⟨x2, zagN x3, x4⟩ with
        | false =>
          have hq := hbad _ Da.k (.inr (.inr hf))
          simp only [go_sem]
          refine wc_ite (b := true) (by simp only [go_sem] <;> rfl) (fun _ => ?_) (fun h => by cases h)
          simp only [go_sem, f1, f2]
          exact hq
        | true =>
          simp only [go_sem]
          refine wc_ite (b := false) (by simp only [go_sem] <;> rfl) (fun h => by cases h) (fun _ => ?_)
          simp only [go_sem, f1, f2, n1, n2]
          refine hQ ⟨x1, ⟨x2, zagN x3, x4⟩⟩ ?_ ⟨hlt, ⟨(zag_rng hlt3).1, (zag_rng hlt3).2, by simp only; omega, by simp only; omega⟩⟩ _ (Da.k.set (.inr (by omega)) _)
          unfold decB
          rw [hO]
          exact if_pos ⟨rfl, ha, hf⟩
      · have neq : ((a4 : Int) != (bs.length : Int)) = true := by
          rw [bne_iff_ne]; omega
        have hq := hbad _ D9.k (.inr (.inl ha))
        simp only [go_sem, c8, e0, e1, e3, e4, m2, m3, m4, n1, n2, n3, n4, neq]
        refine wc_ite (b := true) (by simp only [go_sem] <;> rfl) (fun _ => ?_) (fun h => by cases h)
        simp only [go_sem, c8, e0, e1, e3, e4, m2, m3, m4, n1, n2, n3, n4]
        exact hq
end Go.VM
