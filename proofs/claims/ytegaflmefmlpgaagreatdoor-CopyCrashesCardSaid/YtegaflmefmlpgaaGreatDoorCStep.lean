/-
  Calls of a copy on a disk with power and room, side by side with the document's: what they come to.
  A call of a copy and the document's (do), whatever the power does; what an act is. NEWPP
-/
import Derived.Test.YtegaflmefmlpgaaGreatDoorCDoc
import Derived.Test.YtegaflmefmlpgaaGreatDoorCCalm
set_option maxRecDepth 20000
set_option linter.unusedVariables false
set_option linter.unusedSimpArgs false
namespace Go.VM
open Go Go.RowKit Go.Proofs

structure Two (S : St) (c i g : Nat) (D : Dk) (s : List UInt8) (t tk : Tok) (X : CS) (es : List Rec) (room : Int) (x : Nat) (tx : Tok) : Prop where
  hc : CopyAt S c i g D s t tk X
  hk : Calm s X es room
  hr : RefC S x tx X.T X.L
  dis : ∀ j, ownC c i g D t tk j → ¬ ownX x tx j
theorem RefC.own_lt {S : St} {x : Nat} {tx : Tok} {T : Tm} {L : List Op} (h : RefC S x tx T L) {j : Nat} (hj : ownX x tx j) : j < S.n := by
  rcases hj with rfl | hj
  · exact h.lt
  · have := h.tok; rw [hj] at this; exact this.lt
section
variable {S S' S'' : St} {c i g x : Nat} {D D' : Dk} {s : List UInt8} {t tk t' tk' tx tx' : Tok} {X X' : CS} {es es' : List Rec} {room : Int}
theorem Two.stay (h : Two S c i g D s t tk X es room x tx) (k : Keeps (fun _ => False) S S') : Two S' c i g D s t tk X es room x tx := ⟨h.hc.stay k, h.hk, h.hr.stay k, h.dis⟩
theorem Two.ref (h : Two S c i g D s t tk X es room x tx) (a : CAfter S c i g D t tk S' D' t' tk' s X') : RefC S' x tx X.T X.L := h.hr.keep a.k fun j hj ho => h.dis j ho hj
theorem Two.step (h : Two S c i g D s t tk X es room x tx) (a : CAfter S c i g D t tk S' D' t' tk' s X') (hk : Calm s X' es' room) (b : XAfter S' x tx S'' tx' X'.T X'.L) : Two S'' c i g D' s t' tk' X' es' room x tx' := by
  have hr := h.ref a
  have dis1 : ∀ j, ownC c i g D' t' tk' j → ¬ ownX x tx j := fun j ho hx => by
    rcases a.o j ho with h1 | h1
    · exact h.dis j h1 hx
    · have := h.hr.own_lt hx; omega
  refine ⟨a.w.keep b.k fun j hj ho => dis1 j hj ho, hk, b.w, fun j ho hx => ?_⟩
  rcases b.o j hx with h1 | h1
  · exact dis1 j ho h1
  · have := a.w.own_lt ho; omega
end

theorem file_le {es : List Rec} (h : ∀ e ∈ es, e.Ok) : (fileB (es.map Rec.b)).length ≤ es.length * 609 := by
  induction es with
  | nil => simp [fileB]
  | cons e es ih =>
    have h1 := rec_len (h e (by simp))
    have h2 := frameB_le (r := e.b) (by omega)
    have h3 := ih fun e' he => h e' (List.mem_cons_of_mem _ he)
    have e1 : fileB ((e :: es).map Rec.b) = frameB e.b ++ fileB (es.map Rec.b) := by simp [fileB]
    rw [e1, List.length_append, List.length_cons]
    omega


theorem replay_ops (T : Tm) (Y : Tm × List Op) (l : List Op) : (l.map Rec.o).foldl Rec.on Y = (Y.1, Y.2 ++ l) := by
  induction l generalizing Y with
  | nil => simp
  | cons o l ih => rw [List.map_cons, List.foldl_cons, ih]; simp [Rec.on]
theorem replay_set (T : Tm) (l : List Op) : replayAll (.f T :: l.map Rec.o) = (T, l) := by
  unfold replayAll
  rw [List.foldl_cons, replay_ops T]
  simp [Rec.on]
theorem bad_no {l : List Op} (h : badL l = false) : ∀ o ∈ l, o.d.form = true := fun o ho => by
  cases hf : o.d.form with
  | true => rfl
  | false =>
    have : badL l = true := List.any_eq_true.2 ⟨o, ho, by rw [hf]; rfl⟩
    rw [h] at this; cases this
theorem set_recs (T : Tm) (l : List Op) : recB T :: l.map entB = (Rec.f T :: l.map Rec.o).map Rec.b := by
  simp [Rec.b, Function.comp_def]
theorem set_ok {T : Tm} {l : List Op} (hT : T.Ok) (hl : ∀ o ∈ l, o.Ok) (hb : badL l = false) : ∀ e ∈ (Rec.f T :: l.map Rec.o), e.Ok := fun e he => by
  rcases List.mem_cons.1 he with rfl | he
  · exact hT
  · obtain ⟨o, ho, rfl⟩ := List.mem_map.1 he
    exact ⟨hl o ho, bad_no hb o ho⟩
theorem Calm.set {s : List UInt8} {X : CS} {es es' : List Rec} {room : Int} (h : Calm s X es room) (g : X.D.Good) (hn : nameOk s = true) (hn' : nameOk (newN s) = true) (he : ∀ e ∈ es', e.Ok) (hr : ((fileB X.R).length : Int) + (fileB (es'.map Rec.b)).length ≤ room) :
    ∃ D2, X.D.writeL s (es'.map Rec.b) = (0, D2) ∧ Calm s ⟨D2, es'.map Rec.b, (replayAll es').1, (replayAll es').2⟩ es' room := by
  rcases write_eff h.v g h.c hn hn' h.off (recs_short he) (by rw [h.room]; exact hr) with ⟨e1, e2, e3, e4, e5, e6, _⟩ | ⟨_, e2, _⟩
  · refine ⟨_, ?_, ⟨e2, e3, e4, e5 h.arm, e6.trans h.room, rfl, he, rfl, rfl⟩⟩
    rw [← e1]
  · exact absurd h.arm e2

/-- The document's call. -/
structure CAct where
  k : Nat
  t : Nat
  o : Op
  l : List Op
structure CAct.Ok (a : CAct) : Prop where
  k : a.k < 256
  t : a.t < 18446744073709551616
  o : a.o.Ok
  l : ∀ o ∈ a.l, o.Ok
def docDo (a : CAct) (Y : Tm × List Op) : Int × Tm × List Op :=
  if a.k % 5 = 0 then ((docHear Y.1 a.t).1, (docHear Y.1 a.t).2, Y.2)
  else if a.k % 5 = 1 then ((docServe Y.1 a.t).1, (docServe Y.1 a.t).2, Y.2)
  else if a.k % 5 = 2 then ((docApp Y.1 Y.2 a.o).1, Y.1, (docApp Y.1 Y.2 a.o).2)
  else if a.k % 5 = 3 then docAdopt Y.1 Y.2 a.t a.l
  else (0, Y.1, Y.2)
def CS.act (X : CS) (s : List UInt8) (a : CAct) : Int × CS :=
  if a.k % 5 = 0 then X.hear s a.t
  else if a.k % 5 = 1 then X.serve s a.t
  else if a.k % 5 = 2 then X.app s a.o
  else if a.k % 5 = 3 then X.adopt s a.t a.l
  else (0, X)

section
variable {s : List UInt8} {X : CS} {es : List Rec} {room : Int}
theorem Calm.same (h : Calm s X es room) {n : Nat} {Y : Tm × List Op} (hY : Y = (X.T, X.L)) : ∃ X' es', ((0 : Int), X) = (0, X') ∧ Calm s X' es' room ∧ X'.T = Y.1 ∧ X'.L = Y.2 ∧ es'.length ≤ es.length + n := ⟨X, es, rfl, h, by rw [hY], by rw [hY], by omega⟩
theorem Calm.hear (h : Calm s X es room) (g : X.D.Good) (hn : nameOk s = true) {n : Nat} (ht : n < 18446744073709551616) (hT : X.T.Ok) (hr : (es.length + 1) * 609 ≤ room) :
    ∃ X' es', X.hear s n = ((docHear X.T n).1, X') ∧ Calm s X' es' room ∧ X'.T = (docHear X.T n).2 ∧ X'.L = X.L ∧ es'.length ≤ es.length + 1 := by
  unfold CS.hear docHear
  by_cases h1 : n < X.T.h
  · rw [if_pos h1, if_pos h1]; exact ⟨X, es, rfl, h, rfl, rfl, by omega⟩
  · rw [if_neg h1, if_neg h1]
    by_cases h2 : n = X.T.h
    · rw [if_pos h2]; exact ⟨X, es, rfl, h, by rw [h2], rfl, by omega⟩
    · rw [if_neg h2]
      have hTn : (⟨n, X.T.s, X.T.a⟩ : Tm).Ok := ⟨ht, hT.s, hT.a⟩
      obtain ⟨D2, e1, e2⟩ := h.mark g hn hTn (by
        have f1 := file_le h.ok
        rw [h.r]
        have f2 := recB_len hTn
        have f3 := frameB_le (r := recB ⟨n, X.T.s, X.T.a⟩) (by omega)
        omega)
      exact ⟨_, _, e1, e2, rfl, rfl, by simp⟩
theorem Calm.serve (h : Calm s X es room) (g : X.D.Good) (hn : nameOk s = true) {n : Nat} (ht : n < 18446744073709551616) (hr : (es.length + 1) * 609 ≤ room) :
    ∃ X' es', X.serve s n = ((docServe X.T n).1, X') ∧ Calm s X' es' room ∧ X'.T = (docServe X.T n).2 ∧ X'.L = X.L ∧ es'.length ≤ es.length + 1 := by
  unfold CS.serve docServe
  by_cases h1 : n < X.T.h ∨ n ≤ X.T.s
  · rw [if_pos h1, if_pos h1]; exact ⟨X, es, rfl, h, rfl, rfl, by omega⟩
  · rw [if_neg h1, if_neg h1]
    have hTn : (⟨n, n, n⟩ : Tm).Ok := ⟨ht, ht, ht⟩
    obtain ⟨D2, e1, e2⟩ := h.mark g hn hTn (by
      have f1 := file_le h.ok
      rw [h.r]
      have f2 := recB_len hTn
      have f3 := frameB_le (r := recB ⟨n, n, n⟩) (by omega)
      omega)
    exact ⟨_, _, e1, e2, rfl, rfl, by simp⟩
theorem Calm.app1 (h : Calm s X es room) (g : X.D.Good) (hn : nameOk s = true) {o : Op} (ho : o.Ok) (hr : (es.length + 1) * 609 ≤ room) :
    ∃ X' es', X.app s o = ((docApp X.T X.L o).1, X') ∧ Calm s X' es' room ∧ X'.T = X.T ∧ X'.L = (docApp X.T X.L o).2 ∧ es'.length ≤ es.length + 1 := by
  unfold docApp
  by_cases h1 : o.d.form = false
  · rw [if_pos h1]; unfold CS.app; rw [if_pos h1]; exact ⟨X, es, rfl, h, rfl, rfl, by omega⟩
  · rw [if_neg h1]
    by_cases h2 : o.t ≠ X.T.h ∨ o.t ≠ X.T.a
    · rw [if_pos h2]; unfold CS.app; rw [if_neg h1, if_pos h2]; exact ⟨X, es, rfl, h, rfl, rfl, by omega⟩
    · rw [if_neg h2]
      have hf : o.d.form = true := by simpa using h1
      obtain ⟨D2, e1, e2⟩ := h.app g hn ho hf ⟨Decidable.not_not.1 fun h => h2 (.inl h), Decidable.not_not.1 fun h => h2 (.inr h)⟩ (by
        have f1 := file_le h.ok
        rw [h.r]
        have f2 := entB_len ho hf
        have f3 := frameB_le (r := entB o) (by omega)
        omega)
      exact ⟨_, _, e1, e2, rfl, rfl, by simp⟩
theorem Calm.adopt (h : Calm s X es room) (g : X.D.Good) (hn : nameOk s = true) (hn' : nameOk (newN s) = true) {n : Nat} {l : List Op} (ht : n < 18446744073709551616) (hT : X.T.Ok) (hl : ∀ o ∈ l, o.Ok) (hr : (es.length + l.length + 1) * 609 ≤ room) :
    ∃ X' es', X.adopt s n l = ((docAdopt X.T X.L n l).1, X') ∧ Calm s X' es' room ∧ X'.T = (docAdopt X.T X.L n l).2.1 ∧ X'.L = (docAdopt X.T X.L n l).2.2 ∧ es'.length ≤ es.length + l.length + 1 := by
  unfold CS.adopt docAdopt
  by_cases h1 : n < X.T.h
  · rw [if_pos h1, if_pos h1]; exact ⟨X, es, rfl, h, rfl, rfl, by omega⟩
  rw [if_neg h1, if_neg h1]
  by_cases h2 : badL l = true
  · rw [if_pos h2, if_pos h2]; exact ⟨X, es, rfl, h, rfl, rfl, by omega⟩
  rw [if_neg h2, if_neg h2]
  by_cases h3 : n = X.T.a ∧ l.length ≤ X.L.length
  · rw [if_pos h3, if_pos h3]; exact ⟨X, es, rfl, h, rfl, rfl, by omega⟩
  rw [if_neg h3, if_neg h3]
  have hTn : (⟨n, X.T.s, n⟩ : Tm).Ok := ⟨ht, hT.s, ht⟩
  have hok := set_ok hTn hl (by simpa using h2)
  obtain ⟨D2, e1, e2⟩ := h.set g hn hn' hok (by
    have f1 := file_le h.ok
    have f2 := file_le hok
    rw [h.r]
    simp only [List.length_cons, List.length_map] at f2
    omega)
  rw [replay_set] at e2
  rw [← set_recs] at e1 e2
  refine ⟨⟨D2, recB ⟨n, X.T.s, n⟩ :: l.map entB, ⟨n, X.T.s, n⟩, l⟩, _, ?_, e2, rfl, rfl, by simp only [List.length_cons, List.length_map]; omega⟩
  simp only [e1]
  rfl
theorem Calm.act (h : Calm s X es room) (g : X.D.Good) (hn : nameOk s = true) (hn' : nameOk (newN s) = true) {a : CAct} (ha : a.Ok) (hT : X.T.Ok) (hl : a.l.length ≤ 30) (hr : (es.length + 31) * 609 ≤ room) :
    ∃ X' es', X.act s a = ((docDo a (X.T, X.L)).1, X') ∧ Calm s X' es' room ∧ X'.T = (docDo a (X.T, X.L)).2.1 ∧ X'.L = (docDo a (X.T, X.L)).2.2 ∧ es'.length ≤ es.length + 31 := by
  unfold CS.act docDo
  have hr1 : ((es.length : Int) + 1) * 609 ≤ room := by omega
  by_cases h0 : a.k % 5 = 0
  · rw [if_pos h0, if_pos h0]
    obtain ⟨X', es', q1, q2, q3, q4, q5⟩ := h.hear g hn ha.t hT hr1
    exact ⟨X', es', q1, q2, q3, q4, by omega⟩
  rw [if_neg h0, if_neg h0]
  by_cases h1 : a.k % 5 = 1
  · rw [if_pos h1, if_pos h1]
    obtain ⟨X', es', q1, q2, q3, q4, q5⟩ := h.serve g hn ha.t hr1
    exact ⟨X', es', q1, q2, q3, q4, by omega⟩
  rw [if_neg h1, if_neg h1]
  by_cases h2 : a.k % 5 = 2
  · rw [if_pos h2, if_pos h2]
    obtain ⟨X', es', q1, q2, q3, q4, q5⟩ := h.app1 g hn ha.o hr1
    exact ⟨X', es', q1, q2, q3, q4, by omega⟩
  rw [if_neg h2, if_neg h2]
  by_cases h3 : a.k % 5 = 3
  · rw [if_pos h3, if_pos h3]
    obtain ⟨X', es', q1, q2, q3, q4, q5⟩ := h.adopt g hn hn' ha.t hT ha.l (by omega)
    exact ⟨X', es', q1, q2, q3, q4, by omega⟩
  rw [if_neg h3, if_neg h3]
  exact ⟨X, es, rfl, h, rfl, rfl, by omega⟩
end

/-- What the document's calls keep. -/
structure DocOk (T : Tm) : Prop where
  s : T.s ≤ T.h
  a : T.a ≤ T.h
theorem doc_fence {a : CAct} {T : Tm} {L : List Op} (h : DocOk T) : DocOk (docDo a (T, L)).2.1 ∧ T.h ≤ (docDo a (T, L)).2.1.h ∧ T.s ≤ (docDo a (T, L)).2.1.s ∧ T.a ≤ (docDo a (T, L)).2.1.a ∧ ((docDo a (T, L)).2.1.a = T.a → L.length ≤ (docDo a (T, L)).2.2.length) := by
  obtain ⟨h1, h2⟩ := h
  unfold docDo docHear docServe docApp docAdopt
  simp only
  repeat' split
  all_goals simp only
  all_goals (refine ⟨⟨?_, ?_⟩, ?_, ?_, ?_, ?_⟩ <;> (try intro hh) <;> (try simp only [List.length_append, List.length_cons, List.length_nil]) <;> omega)
end Go.VM

namespace Go.VM
open Go Go.RowKit Go.Proofs

def CAct.v (a : CAct) (tl : Tok) : List V := [.int .u8 (a.k : Nat), .int .u64 (a.t : Nat), .int .u64 (a.o.t : Nat), .str (mkS a.o.d.id), .int .i64 a.o.d.tm, .str (mkS a.o.d.tx), opsV a.l tl]
def CActR (c : List V) (a : CAct) : Prop := ∃ tl, c = a.v tl ∧ (tl = .nil → a.l = []) ∧ a.Ok ∧ a.l.length ≤ 1000000000000000

theorem do_runs {w0 : World} {S : St} {Q : AEnd → St → Prop} {c i g x : Nat} {D : Dk} {s : List UInt8} {t tk tx tl : Tok} {X : CS} {T : Tm} {L : List Op} {a : CAct} (h : CopyAt S c i g D s t tk X) (r : RefC S x tx T L) (dis : ∀ j, ownC c i g D t tk j → ¬ ownX x tx j)
    (ha : a.Ok) (htl : tl = .nil → a.l = []) (hl : a.l.length ≤ 30) (hr : X.R.length < 1000000) (hx : X.L.length < 1000000) (hL : L.length < 1000000)
    (hQ : ∀ S1 D' t' tk' S2 tx', CAfter S c i g D t tk S1 D' t' tk' s (X.act s a).2 → XAfter S1 x tx S2 tx' (docDo a (T, L)).2.1 (docDo a (T, L)).2.2 → Q (.ret (.tup [.int .i64 (X.act s a).1, .int .i64 (docDo a (T, L)).1])) S2) :
    RSim Tryz.prog w0 n_l16_do [.ptr (some (c, 0)), .ptr (some (x, 0)), .agg (a.v tl)] S Q := by
  have k0 : Keeps (fun _ => False) S (S.add (.cells (a.v tl))) := (Keeps.refl _ S).add _
  have h0 := CAfter.new h k0
  have r0 := r.stay k0
  have c0 : (S.add (.cells (a.v tl))).cells S.n = some (a.v tl) := by rw [cells_addc, if_pos rfl]
  have l0 : S.n < (S.add (.cells (a.v tl))).n := by rw [St.add_n]; omega
  have nc : ¬ ownC c i g D t tk S.n := fun hh => by have := h.own_lt hh; omega
  have rk : ∀ {S1 : St} {D1 : Dk} {t1 tk1 : Tok} {X1 : CS}, CAfter (S.add (.cells (a.v tl))) c i g D t tk S1 D1 t1 tk1 s X1 → RefC S1 x tx T L := fun a1 => r0.keep a1.k fun j hj ho => dis j ho hj
  have c1' : ∀ {S1 : St} {D1 : Dk} {t1 tk1 : Tok} {X1 : CS}, CAfter (S.add (.cells (a.v tl))) c i g D t tk S1 D1 t1 tk1 s X1 → S1.cells S.n = some (a.v tl) := fun a1 => a1.k.cells c0 l0 nc
  have h5 : a.k % 5 = 0 ∨ a.k % 5 = 1 ∨ a.k % 5 = 2 ∨ a.k % 5 = 3 ∨ a.k % 5 = 4 := by omega
  have tm : ((a.k : Nat) : Int).tmod 5 = ((a.k % 5 : Nat) : Int) := by rw [Int.tmod_eq_emod_of_nonneg (by omega)]; omega
  unfold CS.act docDo at hQ
  unfold CAct.v opsV at c0 l0 k0 h0 r0 rk c1' ⊢
  rcases h5 with e | e | e | e | e
  all_goals simp only [e, reduceCtorEq, Nat.reduceEqDiff, if_true, if_false] at hQ
  all_goals rw [e] at tm
  · have tm : ((a.k : Nat) : Int).tmod 5 = 0 := tm
    refine RSim.run mixed k_l16_do ?_ (by simp)
    simp only [b_l16_do, go_sem, tm]
    simp only [k_l16_do_0, go_sem]
    refine wc_ite (b := true) (by simp only [go_sem] <;> rfl) (fun _ => ?_) (fun h => by cases h)
    simp only [go_sem]
    generalize S.add _ = S0 at *
    refine wi_call ?_
    simp only [go_sem]
    refine hear_runs h0.w ha.t hr fun S1 D1 t1 tk1 a1 => ?_
    have c1 := c1' a1
    simp only [go_sem, c1]
    refine wi_call ?_
    simp only [go_sem]
    refine refHear_runs (rk a1) ha.t fun S2 b2 => ?_
    simp only [go_sem]
    exact hQ S1 D1 t1 tk1 S2 tx (h0.trans a1) b2
  · have tm : ((a.k : Nat) : Int).tmod 5 = 1 := tm
    refine RSim.run mixed k_l16_do ?_ (by simp)
    simp only [b_l16_do, go_sem, tm]
    simp only [k_l16_do_0, go_sem]
    refine wc_ite (b := false) (by simp only [go_sem] <;> rfl) (fun h => by cases h) (fun _ => ?_)
    simp only [go_sem]
    refine wc_ite (b := true) (by simp only [go_sem] <;> rfl) (fun _ => ?_) (fun h => by cases h)
    simp only [go_sem]
    generalize S.add _ = S0 at *
    refine wi_call ?_
    simp only [go_sem]
    refine serve_runs h0.w ha.t hr fun S1 D1 t1 tk1 a1 => ?_
    have c1 := c1' a1
    simp only [go_sem, c1]
    refine wi_call ?_
    simp only [go_sem]
    refine refServe_runs (rk a1) ha.t fun S2 b2 => ?_
    simp only [go_sem]
    exact hQ S1 D1 t1 tk1 S2 tx (h0.trans a1) b2
  · have tm : ((a.k : Nat) : Int).tmod 5 = 2 := tm
    refine RSim.run mixed k_l16_do ?_ (by simp)
    simp only [b_l16_do, go_sem, tm]
    simp only [k_l16_do_0, go_sem]
    refine wc_ite (b := false) (by simp only [go_sem] <;> rfl) (fun h => by cases h) (fun _ => ?_)
    simp only [go_sem]
    refine wc_ite (b := false) (by simp only [go_sem] <;> rfl) (fun h => by cases h) (fun _ => ?_)
    simp only [go_sem]
    refine wc_ite (b := true) (by simp only [go_sem] <;> rfl) (fun _ => ?_) (fun h => by cases h)
    simp only [go_sem]
    generalize S.add _ = S0 at *
    refine wi_call ?_
    simp only [go_sem]
    refine capp_runs (o := a.o) h0.w ha.o hr hx fun S1 D1 t1 tk1 a1 => ?_
    have c1 := c1' a1
    simp only [go_sem, c1]
    refine wi_call ?_
    simp only [go_sem]
    refine refApp_runs (o := a.o) (rk a1) ha.o hL fun S2 tx2 b2 => ?_
    simp only [go_sem]
    exact hQ S1 D1 t1 tk1 S2 tx2 (h0.trans a1) b2
  · have tm : ((a.k : Nat) : Int).tmod 5 = 3 := tm
    refine RSim.run mixed k_l16_do ?_ (by simp)
    simp only [b_l16_do, go_sem, tm]
    simp only [k_l16_do_0, go_sem]
    refine wc_ite (b := false) (by simp only [go_sem] <;> rfl) (fun h => by cases h) (fun _ => ?_)
    simp only [go_sem]
    refine wc_ite (b := false) (by simp only [go_sem] <;> rfl) (fun h => by cases h) (fun _ => ?_)
    simp only [go_sem]
    refine wc_ite (b := false) (by simp only [go_sem] <;> rfl) (fun h => by cases h) (fun _ => ?_)
    simp only [go_sem]
    refine wc_ite (b := true) (by simp only [go_sem] <;> rfl) (fun _ => ?_) (fun h => by cases h)
    simp only [go_sem]
    generalize S.add _ = S0 at *
    refine wi_call ?_
    simp only [go_sem]
    refine adopt_runs h0.w ha.t ha.l (by omega) htl fun S1 D1 t1 tk1 a1 => ?_
    have c1 := c1' a1
    simp only [go_sem, c1]
    refine wi_call ?_
    simp only [go_sem]
    refine refAdopt_runs (rk a1) ha.t ha.l (by omega) htl fun S2 tx2 b2 => ?_
    simp only [go_sem]
    exact hQ S1 D1 t1 tk1 S2 tx2 (h0.trans a1) b2
  · have tm : ((a.k : Nat) : Int).tmod 5 = 4 := tm
    refine RSim.run mixed k_l16_do ?_ (by simp)
    simp only [b_l16_do, go_sem, tm]
    simp only [k_l16_do_0, go_sem]
    refine wc_ite (b := false) (by simp only [go_sem] <;> rfl) (fun h => by cases h) (fun _ => ?_)
    simp only [go_sem]
    refine wc_ite (b := false) (by simp only [go_sem] <;> rfl) (fun h => by cases h) (fun _ => ?_)
    simp only [go_sem]
    refine wc_ite (b := false) (by simp only [go_sem] <;> rfl) (fun h => by cases h) (fun _ => ?_)
    simp only [go_sem]
    refine wc_ite (b := false) (by simp only [go_sem] <;> rfl) (fun h => by cases h) (fun _ => ?_)
    simp only [go_sem]
    generalize S.add _ = S0 at *
    exact hQ S0 D t tk S0 tx h0 (XAfter.refl r0)

/-- The same, where there are power and room. -/
theorem do_calm' {w0 : World} {S : St} {Q : AEnd → St → Prop} {c i g x : Nat} {D : Dk} {s : List UInt8} {t tk tx tl : Tok} {X : CS} {es : List Rec} {room : Int} {a : CAct} (W : Two S c i g D s t tk X es room x tx) (n1 : nameOk s = true) (n2 : nameOk (newN s) = true)
    (ha : a.Ok) (htl : tl = .nil → a.l = []) (hl : a.l.length ≤ 30) (hr : (es.length + 31) * 609 ≤ room) (he : es.length < 1000000)
    (hQ : ∀ S' D' t' tk' X' es' tx', Two S' c i g D' s t' tk' X' es' room x tx' → X'.T = (docDo a (X.T, X.L)).2.1 → X'.L = (docDo a (X.T, X.L)).2.2 → es'.length ≤ es.length + 31 → Keeps (fun j => ownC c i g D t tk j ∨ ownX x tx j) S S' → (∀ j, ownC c i g D' t' tk' j → ownC c i g D t tk j ∨ S.n ≤ j) → (∀ j, ownX x tx' j → ownX x tx j ∨ S.n ≤ j) → Q (.ret (.tup [.int .i64 (docDo a (X.T, X.L)).1, .int .i64 (docDo a (X.T, X.L)).1])) S') :
    RSim Tryz.prog w0 n_l16_do [.ptr (some (c, 0)), .ptr (some (x, 0)), .agg (a.v tl)] S Q := by
  have hrl : X.R.length = es.length := by rw [W.hk.r, List.length_map]
  have hxl : X.L.length ≤ es.length := by rw [W.hk.l]; exact (replay_ok es W.hk.ok).2.2
  obtain ⟨X', es', q1, q2, q3, q4, q5⟩ := W.hk.act W.hc.good n1 n2 ha W.hc.ok.t hl hr
  refine do_runs W.hc W.hr W.dis ha htl hl (by omega) (by omega) (by omega) fun S1 D1 t1 tk1 S2 tx2 a1 b2 => ?_
  rw [q1] at a1 ⊢
  rw [← q3, ← q4] at b2
  have W2 := W.step a1 q2 b2
  refine hQ S2 D1 t1 tk1 X' es' tx2 W2 q3 q4 q5 ?_ a1.o fun j hj => (b2.o j hj).elim .inl fun h => .inr (Nat.le_trans a1.k.n h)
  refine (a1.k.mono fun j _ h => .inl h).trans b2.k fun j _ h => .inr h
theorem do_calm {w0 : World} {S : St} {Q : AEnd → St → Prop} {c i g x : Nat} {D : Dk} {s : List UInt8} {t tk tx tl : Tok} {X : CS} {es : List Rec} {room : Int} {a : CAct} (W : Two S c i g D s t tk X es room x tx) (n1 : nameOk s = true) (n2 : nameOk (newN s) = true)
    (ha : a.Ok) (htl : tl = .nil → a.l = []) (hl : a.l.length ≤ 30) (hr : (es.length + 31) * 609 ≤ room) (he : es.length < 1000000)
    (hQ : ∀ S' D' t' tk' X' es' tx', Two S' c i g D' s t' tk' X' es' room x tx' → X'.T = (docDo a (X.T, X.L)).2.1 → X'.L = (docDo a (X.T, X.L)).2.2 → es'.length ≤ es.length + 31 → Keeps (fun j => ownC c i g D t tk j ∨ ownX x tx j) S S' → (∀ j, ownC c i g D' t' tk' j → ownC c i g D t tk j ∨ S.n ≤ j) → Q (.ret (.tup [.int .i64 (docDo a (X.T, X.L)).1, .int .i64 (docDo a (X.T, X.L)).1])) S') :
    RSim Tryz.prog w0 n_l16_do [.ptr (some (c, 0)), .ptr (some (x, 0)), .agg (a.v tl)] S Q :=
  do_calm' W n1 n2 ha htl hl hr he fun S' D' t' tk' X' es' tx' a b c d e f _ => hQ S' D' t' tk' X' es' tx' a b c d e f
end Go.VM
