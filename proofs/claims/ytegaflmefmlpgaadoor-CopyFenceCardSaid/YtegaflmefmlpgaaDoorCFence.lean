/-
  CopyFence: the walk. NEWPP
-/
import Derived.Test.YtegaflmefmlpgaaDoorCStep
set_option maxRecDepth 20000
set_option linter.unusedVariables false
set_option linter.unusedSimpArgs false
namespace Go.VM
open Go Go.RowKit Go.Proofs

theorem act_at {v : V} {A : List CAct} {ta : Tok} {cs0 : List V} (hA : IsSlice CActR 7 v A ta) (e : v = .sl cs0 A.length 7 ta) {j : Nat} {a : CAct} (hx : A[j]? = some a) :
    ∃ tl rest, cs0.drop (j * 7) = a.v tl ++ rest ∧ (tl = .nil → a.l = []) ∧ a.Ok ∧ (j < A.length) ∧ ta ≠ .nil := by
  obtain ⟨cs, cell, e1, hne, hj, _, _, ht, hR⟩ := hA.at_ hx
  rw [e] at e1
  injection e1 with e1 _
  subst e1
  obtain ⟨tl, rfl, h1, h2, _⟩ := hR
  exact ⟨tl, (cs0.drop (j * 7)).drop 7, by rw [← ht, List.take_append_drop], h1, h2, hj, hne⟩

theorem copyFence_runs {w0 : World} {v : V} {A : List CAct} {ta : Tok} (hA : IsSlice CActR 7 v A ta) {S : St} {Q : AEnd → St → Prop} (hQ : ∀ S', Q (.ret (.bool true)) S') : RSim Tryd.prog w0 n_l16_CopyFence [v] S Q := by
  obtain ⟨n1, n2⟩ := shardN_ok (n := 3) (by decide)
  obtain ⟨cs0, ev⟩ := hA.len
  have hat := fun {j : Nat} {a : CAct} (hx : A[j]? = some a) => act_at hA ev hx
  clear hA
  subst ev
  refine RSim.run mixed k_l16_CopyFence ?_ (by simp)
  simp only [b_l16_CopyFence, go_sem]
  refine wi_call ?_
  simp only [go_sem]
  refine copyAwake_runs fun S0 _ => ?_
  simp only [go_sem]
  refine wc_ite (b := false) (by simp only [go_sem] <;> rfl) (fun h => by cases h) (fun _ => ?_)
  simp only [go_sem]
  refine wi_call ?_
  simp only [go_sem]
  refine new_ok (shardN 3) (by decide) (by decide) fun S1 i D d hcl ho1 k1 => ?_
  simp only [go_sem]
  refine wi_call ?_
  simp only [go_sem]
  refine copyOpen_calm (n := 3) (es := []) (room := 4194304) (by decide) (fun e h => by cases h) (by decide) d fun S2 c D2 g t tk X hc hk hX k2 o2 => ?_
  simp only [go_sem]
  refine wc_ite (b := false) (by simp only [go_sem] <;> rfl) (fun h => by cases h) (fun _ => ?_)
  simp only [go_sem]
  have k3 : Keeps (fun _ => False) S2 (S2.add (.cells [.int .u64 0, .int .u64 0, .int .u64 0, .sl [] 0 4 .nil])) := (Keeps.refl _ _).add _
  have hR : RefC (S2.add (.cells [.int .u64 0, .int .u64 0, .int .u64 0, .sl [] 0 4 .nil])) S2.n .nil X.T X.L := by
    subst hX
    exact ⟨by rw [cells_addc, if_pos rfl]; rfl, fun _ => rfl, by rw [St.add_n]; omega, trivial, tm0, fun o h => (by cases h), by simp [replayAll]⟩
  have hX0 : DocOk X.T := by subst hX; exact ⟨Nat.le_refl 0, Nat.le_refl 0⟩
  have W : Two (S2.add (.cells [.int .u64 0, .int .u64 0, .int .u64 0, .sl [] 0 4 .nil])) c i g D2 (shardN 3) t tk X [] 4194304 S2.n .nil := ⟨hc.stay k3, hk, hR, fun j ho hx => by
    rcases hx with rfl | hx
    · have := hc.own_lt ho; omega
    · cases hx⟩
  generalize S2.add (.cells [.int .u64 0, .int .u64 0, .int .u64 0, .sl [] 0 4 .nil]) = S3 at *
  clear hX hR k3
  obtain ⟨x, hx⟩ : ∃ x, x = S2.n := ⟨_, rfl⟩
  rw [← hx] at W
  refine loop_rule RSim.le (k := 40) (fun m fr Sa => ∃ (j : Nat) (Da : Dk) (t1 tka txa : Tok) (Xa : CS) (esa : List Rec), m = 40 - j ∧ j ≤ 40 ∧ fr 0 = .sl cs0 A.length 7 ta ∧ fr 5 = .ptr (some (c, 0)) ∧ fr 7 = .ptr (some (x, 0)) ∧ fr 8 = .int .i64 (j : Nat) ∧ Two Sa c i g Da (shardN 3) t1 tka Xa esa 4194304 x txa ∧ DocOk Xa.T ∧ esa.length ≤ 31 * j) ?_
    ⟨0, D2, t, tk, .nil, X, [], rfl, by omega, by simp only [go_sem], by simp only [go_sem], by simp only [go_sem, hx], by simp only [go_sem]; rfl, W, hX0, by simp⟩
  clear hX0 hk hc W
  rintro m fr Sa ⟨j, Da, t1, tka, txa, Xa, esa, hm, hj, f0, f5, f7, f8, Wa, hTa, hea⟩
  simp only [l_l16_CopyFence_0, go_sem, f0, f5, f7, f8]
  by_cases hlt : j < A.length ∧ j < 40
  · have q1 : decide ((j : Int) < (A.length : Int)) = true := decide_eq_true (by omega)
    have q2 : decide ((j : Int) < 40) = true := decide_eq_true (by omega)
    obtain ⟨a, ha⟩ : ∃ a, A[j]? = some a := ⟨_, List.getElem?_eq_getElem hlt.1⟩
    obtain ⟨tl, rest, dx, htl, hao, hjl, hne⟩ := hat ha
    have ja : (j < A.length) = True := eq_true hlt.1
    have na : (ta = .nil) = False := eq_false hne
    have w1 : IntKind.i64.wrap ((j : Int) + 1) = ((j + 1 : Nat) : Int) := by rw [w64 (by omega) (by omega)]; omega
    have q3 : decide ((a.l.length : Int) > 30) = decide (30 < a.l.length) := decide_eq_decide.mpr (by omega)
    have dv := dx
    simp only [CAct.v, opsV, List.cons_append, List.nil_append] at dx
    simp only [go_sem, q1, q2, f8]
    refine wc_ite (b := true) (by simp only [go_sem] <;> rfl) (fun _ => ?_) (fun h => by cases h)
    simp only [go_sem, k_l16_CopyFence_0, f0, f8, dx, ja, na, q3]
    refine wc_ite (b := decide (30 < a.l.length)) (by simp only [go_sem]) (fun hc => ?_) (fun hc => ?_)
    · simp only [go_sem]
      exact hQ _
    have hl30 := of_decide_eq_false hc
    simp only [go_sem, f5]
    refine wi_call ?_
    simp only [go_sem]
    refine copyTerms_runs Wa.hc fun Sb kb => ?_
    simp only [Tm.v]
    simp only [go_sem]
    have kb2 := (((kb.add (.cells [.int .u64 0, .int .u64 0, .int .u64 0])).set (.inr kb.n) (.cells [.int .u64 (Xa.T.h : Nat), .int .u64 (Xa.T.s : Nat), .int .u64 (Xa.T.a : Nat)])))
    have cb : ((Sb.add (.cells [.int .u64 0, .int .u64 0, .int .u64 0])).set Sb.n (.cells [.int .u64 (Xa.T.h : Nat), .int .u64 (Xa.T.s : Nat), .int .u64 (Xa.T.a : Nat)])).cells Sb.n = some [.int .u64 (Xa.T.h : Nat), .int .u64 (Xa.T.s : Nat), .int .u64 (Xa.T.a : Nat)] := by rw [cells_setc, if_pos rfl]
    have lb : Sb.n < ((Sb.add (.cells [.int .u64 0, .int .u64 0, .int .u64 0])).set Sb.n (.cells [.int .u64 (Xa.T.h : Nat), .int .u64 (Xa.T.s : Nat), .int .u64 (Xa.T.a : Nat)])).n := by rw [St.set_n, St.add_n]; omega
    generalize (Sb.add (.cells [.int .u64 0, .int .u64 0, .int .u64 0])).set Sb.n (.cells [.int .u64 (Xa.T.h : Nat), .int .u64 (Xa.T.s : Nat), .int .u64 (Xa.T.a : Nat)]) = Sc at *
    have Wc := Wa.stay kb2
    have nb : ∀ j, ownC c i g Da t1 tka j ∨ ownX x txa j → j < Sa.n := fun j h => h.elim Wa.hc.own_lt Wa.hr.own_lt
    simp only [go_sem, f5]
    refine wi_call ?_
    simp only [go_sem]
    refine copyOps_runs Wc.hc fun Sd tv hv kd => ?_
    have Wd := Wc.stay kd
    have cd := kd.cells cb lb _root_.id
    have ld := kd.lt lb
    have e7 : takeC true 7 (a.v tl ++ rest) = some (.agg (a.v tl)) := by simp [takeC, CAct.v, opsV]
    simp only [CAct.v, opsV, List.cons_append, List.nil_append] at e7
    unfold opsV
    simp only [go_sem, f0, f5, f7, f8, dx, ja, na]
    refine wi_call ?_
    simp only [go_sem]
    refine do_calm (a := a) Wd n1 n2 hao htl (by omega) (by omega) (by omega) fun Se De te tke Xe ese txe We eT eL hes ke oe => ?_
    have ce := ke.cells cd ld fun h => by have := nb _ h; have := kb.n; omega
    obtain ⟨g1, g2, g3, g4, g5⟩ := doc_fence (a := a) (L := Xa.L) hTa
    rw [← eT] at g1 g2 g3 g4 g5
    rw [← eL] at g5
    obtain ⟨g6, g7⟩ := g1
    simp only [go_sem, f5]
    refine wi_call ?_
    simp only [go_sem]
    refine copyTerms_runs We.hc fun Sf kf => ?_
    have cf := kf.cells ce (ke.lt ld) _root_.id
    have Wf := We.stay kf
    have lf := kf.lt (ke.lt ld)
    have z1 : decide ((Xe.T.h : Int) < (Xa.T.h : Int)) = false := decide_eq_false (by omega)
    have z2 : decide ((Xe.T.s : Int) < (Xa.T.s : Int)) = false := decide_eq_false (by omega)
    have z3 : decide ((Xe.T.a : Int) < (Xa.T.a : Int)) = false := decide_eq_false (by omega)
    have z4 : decide ((Xe.T.a : Int) > (Xe.T.h : Int)) = false := decide_eq_false (by omega)
    have z5 : decide ((Xe.T.s : Int) > (Xe.T.h : Int)) = false := decide_eq_false (by omega)
    have z6 : ((Xe.T.a : Int) == (Xa.T.a : Int)) = decide (Xe.T.a = Xa.T.a) := by rw [Bool.eq_iff_iff, beq_iff_eq, decide_eq_true_iff]; omega
    simp only [Tm.v]
    have hne2 : ¬ Sb.n = Sf.n := by omega
    have kg := (Keeps.refl (fun _ => False) Sf).add (.cells [.int .u64 0, .int .u64 0, .int .u64 0])
    have kg := kg.set (.inr (Nat.le_refl _)) (.cells [.int .u64 (Xe.T.h : Nat), .int .u64 (Xe.T.s : Nat), .int .u64 (Xe.T.a : Nat)])
    have Wg := Wf.stay kg
    have fin : (31 * (j + 1)) ≥ ese.length := by omega
    by_cases hsame : Xe.T.a = Xa.T.a
    · rw [decide_eq_true hsame] at z6
      have z7 : decide ((Xe.L.length : Int) < (Xa.L.length : Int)) = false := decide_eq_false (by have := g5 hsame; omega)
      simp only [go_sem, cf, hne2, z1, z2, z3, z4, z5]
      refine wc_ite (b := false) (by simp only [go_sem] <;> rfl) (fun h => by cases h) (fun _ => ?_)
      simp only [go_sem, cf, hne2, z6, f5]
      refine wi_call ?_
      simp only [go_sem]
      refine copyLen_runs Wg.hc ?_
      simp only [go_sem, z7]
      refine wc_ite (b := false) (by simp only [go_sem] <;> rfl) (fun h => by cases h) (fun _ => ?_)
      simp only [go_sem, f8, w1]
      exact ⟨40 - (j + 1), by omega, j + 1, De, te, tke, txe, Xe, ese, rfl, by omega, f0, f5, f7, rfl, Wg, ⟨g6, g7⟩, fin⟩
    · rw [decide_eq_false hsame] at z6
      simp only [go_sem, cf, hne2, z1, z2, z3, z4, z5]
      refine wc_ite (b := false) (by simp only [go_sem] <;> rfl) (fun h => by cases h) (fun _ => ?_)
      simp only [go_sem, cf, hne2, z6, f5]
      refine wc_ite (b := false) (by simp only [go_sem] <;> rfl) (fun h => by cases h) (fun _ => ?_)
      simp only [go_sem, f8, w1]
      exact ⟨40 - (j + 1), by omega, j + 1, De, te, tke, txe, Xe, ese, rfl, by omega, f0, f5, f7, rfl, Wg, ⟨g6, g7⟩, fin⟩
  · by_cases hj1 : j < A.length
    · have q1 : decide ((j : Int) < (A.length : Int)) = true := decide_eq_true (by omega)
      have q2 : decide ((j : Int) < 40) = false := decide_eq_false (by omega)
      simp only [go_sem, q1, q2, f8]
      refine wc_ite (b := false) (by simp only [go_sem] <;> rfl) (fun h => by cases h) (fun _ => ?_)
      simp only [go_sem]
      exact hQ _
    · have q1 : decide ((j : Int) < (A.length : Int)) = false := decide_eq_false (by omega)
      simp only [go_sem, q1, f8]
      refine wc_ite (b := false) (by simp only [go_sem] <;> rfl) (fun h => by cases h) (fun _ => ?_)
      simp only [go_sem]
      exact hQ _
end Go.VM
