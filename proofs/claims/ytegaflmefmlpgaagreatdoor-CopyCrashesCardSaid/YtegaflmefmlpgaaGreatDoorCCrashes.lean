/-
  A call of a copy on a disk whose power may go off in it: what the disk has then.
  CopyCrashes: the walk. NEWPP
-/
import Derived.Test.YtegaflmefmlpgaaGreatDoorCStep
set_option maxRecDepth 20000
set_option linter.unusedVariables false
set_option linter.unusedSimpArgs false
namespace Go.VM
open Go Go.RowKit Go.Proofs

/-- As Calm, but the power may go off. -/
structure Armed (s : List UInt8) (X : CS) (es : List Rec) (room : Int) : Prop where
  v : WD X.D s (fileB X.R) (fileB X.R).length
  c : X.D.clean s
  off : X.D.off = false
  room : X.D.room = room
  r : X.R = es.map Rec.b
  ok : ∀ e ∈ es, e.Ok
  t : X.T = (replayAll es).1
  l : X.L = (replayAll es).2
  g : X.D.Good
theorem Calm.armed {s : List UInt8} {X : CS} {es : List Rec} {room : Int} (h : Calm s X es room) (g : X.D.Good) : Armed s X es room := ⟨h.v, h.c, h.off, h.room, h.r, h.ok, h.t, h.l, g⟩

/-- What becomes of one more record. -/
def Out (s : List UInt8) (es : List Rec) (e : Rec) (room : Int) (f : Int) (D : DS) : Prop :=
  f = 0 ∧ WD D s (fileB ((es ++ [e]).map Rec.b)) (fileB ((es ++ [e]).map Rec.b)).length ∧ D.room = room ∨
  f = 10 ∧ WD D s (fileB ((es ++ [e]).map Rec.b)) (fileB (es.map Rec.b)).length ∧ D.room = room
section
variable {s : List UInt8} {X : CS} {es : List Rec} {room : Int}
theorem Armed.more (h : Armed s X es room) (hn : nameOk s = true) {e : Rec} (he : e.Ok) (hr : ((fileB X.R).length : Int) + (frameB e.b).length ≤ room) :
    ∃ f D2, Out s es e room f D2 ∧ ((X.D.grow s (frameB e.b) false).1 ≠ 0 → X.D.grow s (frameB e.b) false = (f, D2) ∧ f ≠ 0) ∧ ((X.D.grow s (frameB e.b) false).1 = 0 → (X.D.grow s (frameB e.b) false).2.syncL s (X.R ++ [e.b]) = (f, D2)) := by
  obtain ⟨e1, e2, e3, e4, e5, e6⟩ := grow_eff (f := frameB e.b) h.v h.g h.c hn h.off (by rw [h.room]; exact hr)
  rw [← fileB_snoc] at e2
  have er : X.R ++ [e.b] = (es ++ [e]).map Rec.b := by rw [h.r]; simp
  have ql : (fileB X.R).length = (fileB (es.map Rec.b)).length := by rw [h.r]
  rw [er, ql] at e2
  cases hb : X.D.begun.off with
  | true =>
    rw [hb] at e1 e4
    rw [if_pos rfl] at e1
    refine ⟨10, (X.D.grow s (frameB e.b) false).2, .inr ⟨rfl, e2, e6.trans h.room⟩, fun _ => ⟨?_, by decide⟩, fun h0 => ?_⟩
    · rw [← e1]
    · rw [e1] at h0; cases h0
  | false =>
    rw [hb] at e1 e4
    rw [if_neg (by decide)] at e1
    rcases sync_eff e2 hn e4 with ⟨h1, h2, h3, h4⟩ | ⟨_, h1, h2, h3, h4, h5⟩ | ⟨_, h1, h2, h3, h4, h5, h6⟩
    · exfalso
      have := fileB_nil h3
      simp at this
    · refine ⟨10, ((X.D.grow s (frameB e.b) false).2.sync s).2, .inr ⟨rfl, h2, h5.trans (e6.trans h.room)⟩, fun h0 => absurd e1 h0, fun _ => ?_⟩
      unfold DS.syncL
      rw [h1, if_neg (by rintro ⟨h, _⟩; cases h)]
    · refine ⟨0, ((X.D.grow s (frameB e.b) false).2.sync s).2, .inl ⟨rfl, h2, h6.trans (e6.trans h.room)⟩, fun h0 => absurd e1 h0, fun _ => ?_⟩
      unfold DS.syncL
      rw [h1, if_neg (by rintro ⟨h, _⟩; cases h)]
theorem Armed.mark (h : Armed s X es room) (hn : nameOk s = true) {T : Tm} (hT : T.Ok) (hr : ((fileB X.R).length : Int) + (frameB (recB T)).length ≤ room) :
    Out s es (.f T) room (X.mark s T).1 (X.mark s T).2.D := by
  obtain ⟨f, D2, ho, h1, h2⟩ := h.more hn (e := .f T) hT hr
  simp only [Rec.b] at h1 h2
  unfold CS.mark
  by_cases h0 : (X.D.grow s (frameB (recB T)) false).1 = 0
  · rw [if_neg (by simpa using h0)]
    have := h2 h0
    simp only [this]
    exact ho
  · rw [if_pos h0]
    obtain ⟨h3, _⟩ := h1 h0
    simp only [h3]
    exact ho
theorem Armed.app (h : Armed s X es room) (hn : nameOk s = true) {o : Op} (ho : o.Ok) (hf : o.d.form = true) (ht : o.t = X.T.h ∧ o.t = X.T.a) (hr : ((fileB X.R).length : Int) + (frameB (entB o)).length ≤ room) :
    Out s es (.o o) room (X.app s o).1 (X.app s o).2.D := by
  obtain ⟨f, D2, hh, h1, h2⟩ := h.more hn (e := .o o) ⟨ho, hf⟩ hr
  simp only [Rec.b] at h1 h2
  unfold CS.app
  rw [if_neg (by rw [hf]; simp), if_neg (by rintro (h | h); exact h ht.1; exact h ht.2)]
  by_cases h0 : (X.D.grow s (frameB (entB o)) false).1 = 0
  · rw [if_neg (by simpa using h0)]
    have := h2 h0
    simp only [this]
    exact hh
  · rw [if_pos h0]
    obtain ⟨h3, _⟩ := h1 h0
    simp only [h3]
    exact hh

/-- What the disk has behind a call: all that the call does, or nothing, or it was in the middle of one more record. -/
structure Left (s : List UInt8) (es es' : List Rec) (room f d : Int) (D : DS) : Prop where
  room : D.room = room
  ok : ∀ e ∈ es', e.Ok
  n : es'.length ≤ es.length + 31
  how : f = d ∧ WD D s (fileB (es'.map Rec.b)) (fileB (es'.map Rec.b)).length ∨
    f = 10 ∧ (WD D s (fileB (es.map Rec.b)) (fileB (es.map Rec.b)).length ∨ ∃ e, es' = es ++ [e] ∧ WD D s (fileB (es'.map Rec.b)) (fileB (es.map Rec.b)).length)
theorem Out.left {e : Rec} {f : Int} {D : DS} (h : Out s es e room f D) (hok : ∀ e ∈ es, e.Ok) (he : e.Ok) : Left s es (es ++ [e]) room f 0 D := by
  refine ⟨h.elim (·.2.2) (·.2.2), fun x hx => ?_, by simp, ?_⟩
  · rcases List.mem_append.1 hx with hx | hx
    · exact hok x hx
    · rw [List.mem_singleton.1 hx]; exact he
  · rcases h with ⟨h1, h2, _⟩ | ⟨h1, h2, _⟩
    · exact .inl ⟨h1, h2⟩
    · exact .inr ⟨h1, .inr ⟨e, rfl, h2⟩⟩
theorem Armed.nothing (h : Armed s X es room) (d : Int) : Left s es es room d d X.D := ⟨h.room, h.ok, by omega, .inl ⟨rfl, by have := h.v; rw [h.r] at this; exact this⟩⟩

theorem Armed.act (h : Armed s X es room) (hn : nameOk s = true) (hn' : nameOk (newN s) = true) {a : CAct} (ha : a.Ok) (hT : X.T.Ok) (hl : a.l.length ≤ 30) (hr : (2 * es.length + 31) * 609 ≤ room) :
    ∃ es', replayAll es' = (docDo a (X.T, X.L)).2 ∧ Left s es es' room (X.act s a).1 (docDo a (X.T, X.L)).1 (X.act s a).2.D := by
  have same : replayAll es = (X.T, X.L) := by rw [h.t, h.l]
  have f1 := file_le h.ok
  have fr : (fileB X.R).length = (fileB (es.map Rec.b)).length := by rw [h.r]
  have mk : ∀ T : Tm, T.Ok → ∃ es', replayAll es' = (T, X.L) ∧ Left s es es' room (X.mark s T).1 0 (X.mark s T).2.D := fun T hT' => by
    refine ⟨es ++ [.f T], by rw [replay_snoc, same]; rfl, (h.mark hn hT' ?_).left h.ok hT'⟩
    have f2 := recB_len hT'
    have f3 := frameB_le (r := recB T) (by omega)
    omega
  unfold CS.act docDo
  by_cases h0 : a.k % 5 = 0
  · rw [if_pos h0, if_pos h0]
    unfold CS.hear docHear
    by_cases h1 : a.t < X.T.h
    · simp only [if_pos h1]; exact ⟨es, same, h.nothing 12⟩
    · simp only [if_neg h1]
      by_cases h2 : a.t = X.T.h
      · simp only [if_pos h2]; exact ⟨es, by rw [same, h2], h.nothing 0⟩
      · simp only [if_neg h2]
        exact mk _ ⟨ha.t, hT.s, hT.a⟩
  rw [if_neg h0, if_neg h0]
  by_cases h1 : a.k % 5 = 1
  · rw [if_pos h1, if_pos h1]
    unfold CS.serve docServe
    by_cases h2 : a.t < X.T.h ∨ a.t ≤ X.T.s
    · simp only [if_pos h2]; exact ⟨es, same, h.nothing 12⟩
    · simp only [if_neg h2]
      exact mk _ ⟨ha.t, ha.t, ha.t⟩
  rw [if_neg h1, if_neg h1]
  by_cases h2 : a.k % 5 = 2
  · rw [if_pos h2, if_pos h2]
    unfold docApp
    by_cases h3 : a.o.d.form = false
    · have e : X.app s a.o = (3, X) := if_pos h3
      simp only [if_pos h3, e]; exact ⟨es, same, h.nothing 3⟩
    · by_cases h4 : a.o.t ≠ X.T.h ∨ a.o.t ≠ X.T.a
      · have e : X.app s a.o = (12, X) := (if_neg h3).trans (if_pos h4)
        simp only [if_neg h3, if_pos h4, e]; exact ⟨es, same, h.nothing 12⟩
      · simp only [if_neg h3, if_neg h4]
        have hf : a.o.d.form = true := by simpa using h3
        refine ⟨es ++ [.o a.o], by rw [replay_snoc, same]; rfl, (h.app hn ha.o hf ⟨Decidable.not_not.1 fun h => h4 (.inl h), Decidable.not_not.1 fun h => h4 (.inr h)⟩ ?_).left h.ok ⟨ha.o, hf⟩⟩
        have f2 := entB_len ha.o hf
        have f3 := frameB_le (r := entB a.o) (by omega)
        omega
  rw [if_neg h2, if_neg h2]
  by_cases h3 : a.k % 5 = 3
  · rw [if_pos h3, if_pos h3]
    unfold CS.adopt docAdopt
    by_cases h4 : a.t < X.T.h
    · simp only [if_pos h4]; exact ⟨es, same, h.nothing 12⟩
    by_cases h5 : badL a.l = true
    · simp only [if_neg h4, if_pos h5]; exact ⟨es, same, h.nothing 3⟩
    by_cases h6 : a.t = X.T.a ∧ a.l.length ≤ X.L.length
    · simp only [if_neg h4, if_neg h5, if_pos h6]; exact ⟨es, same, h.nothing 0⟩
    simp only [if_neg h4, if_neg h5, if_neg h6]
    have hTn : (⟨a.t, X.T.s, a.t⟩ : Tm).Ok := ⟨ha.t, hT.s, ha.t⟩
    have hok := set_ok hTn ha.l (by simpa using h5)
    have f2 := file_le hok
    simp only [List.length_cons, List.length_map] at f2
    have hw := write_eff h.v h.g h.c hn hn' h.off (recs_short hok) (by rw [h.room]; omega)
    rw [← set_recs] at hw
    refine ⟨_, replay_set _ _, ?_⟩
    rcases hw with ⟨e1, e2, e3, e4, e5, e6, _⟩ | ⟨e1, e2, e3, e4, e5⟩
    · rw [if_neg (by rw [e1]; simp)]
      refine ⟨e6.trans h.room, hok, by simp; omega, .inl ⟨rfl, ?_⟩⟩
      rw [← set_recs]; exact e2
    · rw [if_pos (by rw [e1]; decide)]
      refine ⟨e5.trans h.room, hok, by simp; omega, .inr ⟨e1, .inl ?_⟩⟩
      rw [h.r] at e3; exact e3
  rw [if_neg h3, if_neg h3]
  exact ⟨es, same, h.nothing 0⟩
end

/-- What stands at the front of a file that was cut behind its first records. -/
theorem scans_two {es : List Rec} {e : Rec} (hok : ∀ x ∈ es ++ [e], x.Ok) {m : Nat} (h1 : (fileB (es.map Rec.b)).length ≤ m) (h2 : m ≤ (fileB ((es ++ [e]).map Rec.b)).length) :
    ∃ fs, (fs = es ∨ fs = es ++ [e]) ∧ Scans ((fileB ((es ++ [e]).map Rec.b)).take m) (fs.map Rec.b) (fileB (fs.map Rec.b)).length ∧ (fileB (fs.map Rec.b)).length ≤ m := by
  obtain ⟨j, hj, hs, hle, hmax⟩ := scans_cut m (recs_short hok)
  have hlen : ((es ++ [e]).map Rec.b).length = es.length + 1 := by simp
  rw [hlen] at hj hmax
  have ht : ((es ++ [e]).map Rec.b).take es.length = es.map Rec.b := by
    rw [List.map_append, List.take_append_of_le_length (by simp)]
    exact List.take_of_length_le (by simp)
  have h3 := hmax es.length (by omega) (by rw [ht]; exact h1)
  rcases (show j = es.length ∨ j = es.length + 1 by omega) with rfl | rfl
  · rw [ht] at hs hle
    exact ⟨es, .inl rfl, hs, hle⟩
  · rw [← hlen, List.take_length] at hs hle
    exact ⟨_, .inr rfl, hs, hle⟩
end Go.VM

namespace Go.VM
open Go Go.RowKit Go.Proofs

theorem act_at'' {v : V} {A : List CAct} {ta : Tok} {cs0 : List V} (hA : IsSlice CActR 7 v A ta) (e : v = .sl cs0 A.length 7 ta) {j : Nat} {a : CAct} (hx : A[j]? = some a) :
    ∃ tl rest, cs0.drop (j * 7) = a.v tl ++ rest ∧ (tl = .nil → a.l = []) ∧ a.Ok ∧ (j < A.length) ∧ ta ≠ .nil := by
  obtain ⟨cs, cell, e1, hne, hj, _, _, ht, hR⟩ := hA.at_ hx
  rw [e] at e1
  injection e1 with e1 _
  subst e1
  obtain ⟨tl, rfl, h1, h2, _⟩ := hR
  exact ⟨tl, (cs0.drop (j * 7)).drop 7, by rw [← ht, List.take_append_drop], h1, h2, hj, hne⟩

theorem refSame_any {w0 : World} {S : St} {Q : AEnd → St → Prop} {A B : List Op} {ta tb : Tok} (ha : ta = .nil → A = []) (hb : tb = .nil → B = []) (hA : A.length ≤ 1000000)
    (hQ : ∀ b, Q (.ret (.bool b)) S) : RSim Tryz.prog w0 n_r16_Same [opsV A ta, opsV B tb] S Q := refSame_runs ha hb hA (hQ _)
/-- Two that may be alike or not. -/
theorem same16_any {w0 : World} {S : St} {Q : AEnd → St → Prop} {c i g x : Nat} {D : Dk} {s : List UInt8} {t tk tx : Tok} {X : CS} {T : Tm} {L : List Op} (h : CopyAt S c i g D s t tk X) (r : RefC S x tx T L)
    (hQ : ∀ b S', Keeps (fun _ => False) S S' → Q (.ret (.bool b)) S') : RSim Tryz.prog w0 n_l16_same [.ptr (some (c, 0)), .ptr (some (x, 0))] S Q := by
  refine RSim.run mixed k_l16_same ?_ (by simp)
  simp only [b_l16_same, go_sem]
  refine wi_call ?_
  simp only [go_sem]
  refine copyTerms_runs h fun S1 k1 => ?_
  have r1 := r.stay k1
  have ex1 := r1.ex
  have l1 := r1.lt
  have hne : ¬ x = S1.n := by omega
  have k2 := k1.trans ((((Keeps.refl (fun _ => False) S1).add (.cells [.int .u64 0, .int .u64 0, .int .u64 0])).set (.inr (Nat.le_refl _)) (.cells [.int .u64 (X.T.h : Nat), .int .u64 (X.T.s : Nat), .int .u64 (X.T.a : Nat)]))) (fun _ _ => _root_.id)
  have h2 := h.stay k2
  have r2 := r.stay k2
  obtain ⟨b1, e1⟩ : ∃ b, ((X.T.h : Int) == (T.h : Int)) = b := ⟨_, rfl⟩
  obtain ⟨b2, e2⟩ : ∃ b, ((X.T.s : Int) == (T.s : Int)) = b := ⟨_, rfl⟩
  obtain ⟨b3, e3⟩ : ∃ b, ((X.T.a : Int) == (T.a : Int)) = b := ⟨_, rfl⟩
  obtain ⟨b4, e4⟩ : ∃ b, ((X.L.length : Int) == (L.length : Int)) = b := ⟨_, rfl⟩
  simp only [Tm.v]
  unfold opsV at ex1
  cases b1
  · simp only [go_sem, ex1, hne, e1, e2, e3]
    exact hQ _ _ k2
  cases b2
  · simp only [go_sem, ex1, hne, e1, e2, e3]
    exact hQ _ _ k2
  cases b3
  · simp only [go_sem, ex1, hne, e1, e2, e3]
    exact hQ _ _ k2
  simp only [go_sem, ex1, hne, e1, e2, e3]
  generalize (S1.add (.cells [.int .u64 0, .int .u64 0, .int .u64 0])).set S1.n (.cells [.int .u64 (X.T.h : Nat), .int .u64 (X.T.s : Nat), .int .u64 (X.T.a : Nat)]) = S2 at *
  refine wi_call ?_
  simp only [go_sem]
  refine copyLen_runs h2 ?_
  have ex2 := r2.ex
  unfold opsV at ex2
  cases b4
  · simp only [go_sem, ex2, e4]
    exact hQ _ _ k2
  simp only [go_sem, ex2, e4]
  refine wi_call ?_
  simp only [go_sem]
  refine copyOps_runs h2 fun S3 tv hv k3 => ?_
  have r3 := r2.stay k3
  have ex3 := r3.ex
  unfold opsV at ex3
  have k3' := k2.trans k3 (fun _ _ => _root_.id)
  simp only [go_sem, ex3]
  refine wi_call ?_
  simp only [go_sem]
  refine refSame_any hv r.nil h.ok.n fun b => ?_
  simp only [go_sem]
  exact hQ b S3 k3'

/-- The last question: the copy is one behind the call, or (where the call was not done) ahead of it. -/
theorem crashes_y {w0 : World} {fr : Fr} {S : St} {Q : AEnd → St → Prop} {c i g y : Nat} {D : Dk} {s : List UInt8} {t tk ty : Tok} {X : CS} (h : CopyAt S c i g D s t tk X) (ry : RefC S y ty X.T X.L)
    (f11 : fr 11 = .ptr (some (c, 0))) (f15 : fr 15 = .ptr (some (y, 0))) (hQ : ∀ S', Q (.ret (.bool true)) S') : wCode (RSim Tryz.prog w0) r_l16_CopyCrashes_1 fr S (resQ [.tmp 8] Q) := by
  simp only [r_l16_CopyCrashes_1, go_sem, f11, f15]
  refine wi_call ?_
  simp only [go_sem]
  refine same16_runs h ry fun S1 k1 => ?_
  simp only [go_sem]
  exact hQ S1
theorem crashes_x {w0 : World} {fr : Fr} {S : St} {Q : AEnd → St → Prop} {c i g x y : Nat} {D : Dk} {s : List UInt8} {t tk tx ty : Tok} {X : CS} {Ty : Tm} {Ly : List Op} (h : CopyAt S c i g D s t tk X) (rx : RefC S x tx X.T X.L) (ry : RefC S y ty Ty Ly)
    (f11 : fr 11 = .ptr (some (c, 0))) (f13 : fr 13 = .ptr (some (x, 0))) (f15 : fr 15 = .ptr (some (y, 0))) (f18 : fr 18 = .bool false) (hQ : ∀ S', Q (.ret (.bool true)) S') : wCode (RSim Tryz.prog w0) r_l16_CopyCrashes_1 fr S (resQ [.tmp 8] Q) := by
  simp only [r_l16_CopyCrashes_1, go_sem, f11, f13, f15, f18]
  refine wi_call ?_
  simp only [go_sem]
  refine same16_any h ry fun b S1 k1 => ?_
  cases b
  · simp only [go_sem, f11, f13, f18]
    refine wi_call ?_
    simp only [go_sem]
    refine same16_runs (h.stay k1) (rx.stay k1) fun S2 k2 => ?_
    simp only [go_sem]
    exact hQ S2
  · simp only [go_sem]
    exact hQ S1

/-- Behind the last call: the power goes off and on, and the copy is opened again. -/
theorem crashes_end {w0 : World} {fr : Fr} {S : St} {Q : AEnd → St → Prop} {c i g x y : Nat} {D : Dk} {t tk tx ty kt : Tok} {X : CS} {Tx Ty : Tm} {Lx Ly : List Op} {es es' : List Rec} {f d : Int} {keep : List Int}
    (h : CopyAt S c i g D (shardN 0) t tk X) (rx : RefC S x tx Tx Lx) (ry : RefC S y ty Ty Ly) (dx : ∀ j, ownC c i g D t tk j → ¬ ownX x tx j) (dy : ∀ j, ownC c i g D t tk j → ¬ ownX y ty j)
    (ok : ∀ e ∈ es, e.Ok) (ex : replayAll es = (Tx, Lx)) (ey : replayAll es' = (Ty, Ly)) (hL : Left (shardN 0) es es' 4194304 f d X.D) (hes : es.length ≤ 1000) (hk : kt = .nil → keep = [])
    (f3 : fr 3 = intsV keep kt) (f9 : fr 9 = .ptr (some (i, 0))) (f13 : fr 13 = .ptr (some (x, 0))) (f15 : fr 15 = .ptr (some (y, 0))) (f16 : fr 16 = .int .i64 f) (hQ : ∀ S', Q (.ret (.bool true)) S') :
    wCode (RSim Tryz.prog w0) r_l16_CopyCrashes_2 fr S (resQ [.tmp 8] Q) := by
  have n8 : (0 : Nat) < 8 := by decide
  obtain ⟨n1, n2⟩ := shardN_ok n8
  obtain ⟨hroom, hok, hn, hhow⟩ := hL
  have hd : X.D = D.abs := h.d
  rw [hd] at hroom hhow
  have keepR : ∀ {S1 S2 : St} {D1 D2 : Dk} {c2 g2 : Nat} {t2 tk2 : Tok} {z : Nat} {tz : Tok} {T : Tm} {L : List Op}, RefC S z tz T L → (∀ j, ownC c i g D t tk j → ¬ ownX z tz j) → After S i D S1 D1 → Keeps (ownD i D1) S1 S2 → RefC S2 z tz T L := by
    intro S1 S2 D1 D2 c2 g2 t2 tk2 z tz T L r dz a k
    have r1 : RefC S1 z tz T L := r.keep a.k fun j hj ho => dz j (.inl (.inl ho)) hj
    exact r1.keep k fun j hj ho => by
      rcases a.o j ho with h1 | h1
      · exact dz j (.inl (.inl h1)) hj
      · have := r.own_lt hj; omega
  have fe := file_le ok
  have fe' := file_le hok
  rcases hhow with ⟨hf, hv⟩ | ⟨hf, hv | ⟨e, he, hv⟩⟩
  · simp only [r_l16_CopyCrashes_2, go_sem, f3, f9, f16]
    refine wi_call ?_
    simp only [go_sem]
    refine restart_ok h.w.d hv hroom hk fun S1 D1 m h1 h2 _ d1 a1 => ?_
    have hm : m = (fileB (es'.map Rec.b)).length := by omega
    subst hm
    rw [List.take_length] at d1
    simp only [go_sem, f9]
    refine wi_call ?_
    simp only [go_sem]
    refine copyOpen_calm (n := 0) (es := es') n8 hok (by omega) d1 fun S2 c2 D2 g2 t2 tk2 X2 hc2 hk2 hX2 k2 o2 => ?_
    have r2 := keepR (D2 := D2) (c2 := c2) (g2 := g2) (t2 := t2) (tk2 := tk2) ry dy a1 k2
    simp only [go_sem]
    refine wc_ite (b := false) (by simp only [go_sem] <;> rfl) (fun h => by cases h) (fun _ => ?_)
    simp only [go_sem]
    refine crashes_y hc2 (ty := ty) (y := y) ?_ (by simp only [go_sem]) (by simp only [go_sem, f15]) hQ
    rw [hk2.t, hk2.l, ey]; exact r2
  · subst hf
    simp only [r_l16_CopyCrashes_2, go_sem, f3, f9, f16]
    refine wi_call ?_
    simp only [go_sem]
    refine restart_ok h.w.d hv hroom hk fun S1 D1 m h1 h2 _ d1 a1 => ?_
    have hm : m = (fileB (es.map Rec.b)).length := by omega
    subst hm
    rw [List.take_length] at d1
    simp only [go_sem, f9]
    refine wi_call ?_
    simp only [go_sem]
    refine copyOpen_calm (n := 0) (es := es) n8 ok (by omega) d1 fun S2 c2 D2 g2 t2 tk2 X2 hc2 hk2 hX2 k2 o2 => ?_
    have r2 := keepR (D2 := D2) (c2 := c2) (g2 := g2) (t2 := t2) (tk2 := tk2) ry dy a1 k2
    have rx2 := keepR (D2 := D2) (c2 := c2) (g2 := g2) (t2 := t2) (tk2 := tk2) rx dx a1 k2
    simp only [go_sem]
    refine wc_ite (b := false) (by simp only [go_sem] <;> rfl) (fun h => by cases h) (fun _ => ?_)
    simp only [go_sem]
    refine crashes_x hc2 (x := x) (tx := tx) (ty := ty) (y := y) ?_ r2 (by simp only [go_sem]) (by simp only [go_sem, f13]) (by simp only [go_sem, f15]) (by simp only [go_sem]) hQ
    rw [hk2.t, hk2.l, ex]; exact rx2
  · subst hf
    subst he
    simp only [r_l16_CopyCrashes_2, go_sem, f3, f9, f16]
    refine wi_call ?_
    simp only [go_sem]
    refine restart_ok h.w.d hv hroom hk fun S1 D1 m h1 h2 _ d1 a1 => ?_
    obtain ⟨fs, hfs, hsc, hle⟩ := scans_two hok h1 h2
    have hfok : ∀ e ∈ fs, e.Ok := by rcases hfs with rfl | rfl <;> assumption
    have hfl : fs.length ≤ es.length + 1 := by rcases hfs with rfl | rfl <;> simp
    have ff := file_le hfok
    have hpl : ((fileB ((es ++ [e]).map Rec.b)).take m).length = m := by rw [List.length_take]; omega
    have lx : (es ++ [e]).length = es.length + 1 := by simp
    simp only [go_sem, f9]
    refine wi_call ?_
    simp only [go_sem]
    refine copyOpen_runs (D := D1) (n := 0) (es := fs) (P := fun _ => True) n8 hfok (by omega) (fun Q' hQ' => ?_) fun S2 c2 D2 g2 t2 tk2 hc2 _ k2 o2 => ?_
    · refine open_ok (L := fs.map Rec.b) (n := (fileB (fs.map Rec.b)).length) d1 n1 n2 (show 7 ≤ 28 by decide) (by rw [hpl]; exact Nat.le_refl _) hsc (fun hh => ?_) (by rw [hpl]; omega) fun S' D' g' t' hl k' o' _ _ => hQ' S' D' g' t' ⟨hl.w, k', o'⟩ trivial
      rw [hpl] at hh
      rcases hfs with rfl | rfl
      · rw [List.map_append, fileB_append, ← hh, List.take_left]
      · rw [hh.symm, List.take_length]
    have r2 := keepR (D2 := D2) (c2 := c2) (g2 := g2) (t2 := t2) (tk2 := tk2) ry dy a1 k2
    have rx2 := keepR (D2 := D2) (c2 := c2) (g2 := g2) (t2 := t2) (tk2 := tk2) rx dx a1 k2
    simp only [go_sem]
    refine wc_ite (b := false) (by simp only [go_sem] <;> rfl) (fun h => by cases h) (fun _ => ?_)
    simp only [go_sem]
    rcases hfs with rfl | rfl
    · refine crashes_x hc2 (x := x) (tx := tx) (ty := ty) (y := y) ?_ r2 (by simp only [go_sem]) (by simp only [go_sem, f13]) (by simp only [go_sem, f15]) (by simp only [go_sem]) hQ
      simp only [ex]; exact rx2
    · refine crashes_y hc2 (ty := ty) (y := y) ?_ (by simp only [go_sem]) (by simp only [go_sem, f15]) hQ
      simp only [ey]; exact r2

theorem copyCrashes_runs {w0 : World} {v : V} {A : List CAct} {ta tl kt : Tok} {n : Nat} {last : CAct} {keep : List Int} (hA : IsSlice CActR 7 v A ta) (hn : n ≤ 255) (hla : last.Ok) (htl : tl = .nil → last.l = []) (hk : kt = .nil → keep = [])
    {S : St} {Q : AEnd → St → Prop} (hQ : ∀ S', Q (.ret (.bool true)) S') : RSim Tryz.prog w0 n_l16_CopyCrashes [v, .int .u8 n, .agg (last.v tl), intsV keep kt] S Q := by
  obtain ⟨n1, n2⟩ := shardN_ok (n := 0) (by decide)
  obtain ⟨cs0, ev⟩ := hA.len
  have hat := fun {j : Nat} {a : CAct} (hx : A[j]? = some a) => act_at'' hA ev hx
  clear hA
  subst ev
  have c0 : (S.add (.cells (last.v tl))).cells S.n = some (last.v tl) := by rw [cells_addc, if_pos rfl]
  have l0 : S.n < (S.add (.cells (last.v tl))).n := by rw [St.add_n]; omega
  have c0' := c0
  have q30 : decide ((last.l.length : Int) > 30) = decide (30 < last.l.length) := decide_eq_decide.mpr (by omega)
  have e7 : takeC true 7 (last.v tl) = some (.agg (last.v tl)) := by simp [takeC, CAct.v, opsV]
  have cvn : ∀ S, V.conv S (.int .i64) (.int .u8 (n : Int)) = some (.int .i64 (n : Int)) := fun S => by simp only [V.conv]; rw [w64 (by omega) (by omega)]
  have tmn : (n : Int).tmod 4 = ((n % 4 : Nat) : Int) := by rw [Int.tmod_eq_emod_of_nonneg (by omega)]; omega
  have wn : IntKind.i64.wrap (1 + ((n % 4 : Nat) : Int)) = ((1 + n % 4 : Nat) : Int) := by rw [w64 (by omega) (by omega)]; omega
  simp only [CAct.v, opsV] at c0 l0 e7 ⊢
  refine RSim.run mixed k_l16_CopyCrashes ?_ (by simp)
  simp only [b_l16_CopyCrashes, go_sem]
  simp only [CAct.v, opsV] at c0'
  generalize S.add (.cells [.int .u8 (last.k : Nat), .int .u64 (last.t : Nat), .int .u64 (last.o.t : Nat), .str (mkS last.o.d.id), .int .i64 last.o.d.tm, .str (mkS last.o.d.tx), .sl (last.l.flatMap Op.v) last.l.length 4 tl]) = S0 at *
  refine wi_call ?_
  simp only [go_sem]
  refine copyAwake_runs fun Sw kw => ?_
  have cw := kw.cells c0 l0 _root_.id
  have lw := kw.lt l0
  simp only [go_sem]
  refine wc_ite (b := false) (by simp only [go_sem] <;> rfl) (fun h => by cases h) (fun _ => ?_)
  simp only [go_sem, r_l16_CopyCrashes_5]
  refine wi_call ?_
  simp only [go_sem]
  refine new_ok (shardN 0) (by decide) (by decide) fun S1 i D d hcl ho1 k1 => ?_
  have c1 := k1.cells cw lw _root_.id
  have l1 := k1.lt lw
  simp only [go_sem]
  refine wi_call ?_
  simp only [go_sem]
  refine copyOpen_calm (n := 0) (es := []) (room := 4194304) (by decide) (fun e h => by cases h) (by decide) d fun S2 c D2 g t tk X hc hk' hX k2 o2 => ?_
  have nD : ¬ ownD i D S.n := fun ho => by have := ho1 _ ho; omega
  have c2 := k2.cells c1 l1 nD
  have l2 := k2.lt l1
  have nC : ¬ ownC c i g D2 t tk S.n := fun ho => by
    rcases o2 _ ho with h | h
    · exact nD h
    · omega
  simp only [go_sem]
  refine wc_ite (b := false) (by simp only [go_sem] <;> rfl) (fun h => by cases h) (fun _ => ?_)
  simp only [go_sem, r_l16_CopyCrashes_4]
  have k3 : Keeps (fun _ => False) S2 (S2.add (.cells [.int .u64 0, .int .u64 0, .int .u64 0, .sl [] 0 4 .nil])) := (Keeps.refl _ _).add _
  have c3 := k3.cells c2 l2 _root_.id
  have l3 := k3.lt l2
  have hR : RefC (S2.add (.cells [.int .u64 0, .int .u64 0, .int .u64 0, .sl [] 0 4 .nil])) S2.n .nil X.T X.L := by
    subst hX
    exact ⟨by rw [cells_addc, if_pos rfl]; rfl, fun _ => rfl, by rw [St.add_n]; omega, trivial, tm0, fun o h => (by cases h), by simp [replayAll]⟩
  have W : Two (S2.add (.cells [.int .u64 0, .int .u64 0, .int .u64 0, .sl [] 0 4 .nil])) c i g D2 (shardN 0) t tk X [] 4194304 S2.n .nil := ⟨hc.stay k3, hk', hR, fun j ho hx => by
    rcases hx with rfl | hx
    · have := hc.own_lt ho; omega
    · cases hx⟩
  have nX : ¬ ownX S2.n .nil S.n := fun ho => by
    rcases ho with h | h
    · omega
    · cases h
  generalize S2.add (.cells [.int .u64 0, .int .u64 0, .int .u64 0, .sl [] 0 4 .nil]) = S3 at *
  clear hX hR k3
  obtain ⟨x, hx⟩ : ∃ x, x = S2.n := ⟨_, rfl⟩
  rw [← hx] at W nX
  -- what comes behind the loop
  have fin : ∀ (fr : Fr) (Sa : St) (Da : Dk) (t1 tka txa : Tok) (Xa : CS) (esa : List Rec), fr 1 = .int .u8 (n : Nat) → fr 3 = intsV keep kt → fr 6 = .ptr (some (S.n, 0)) → fr 9 = .ptr (some (i, 0)) → fr 11 = .ptr (some (c, 0)) → fr 13 = .ptr (some (x, 0)) →
      Two Sa c i g Da (shardN 0) t1 tka Xa esa 4194304 x txa → esa.length ≤ 620 → Sa.cells S.n = some [.int .u8 (last.k : Nat), .int .u64 (last.t : Nat), .int .u64 (last.o.t : Nat), .str (mkS last.o.d.id), .int .i64 last.o.d.tm, .str (mkS last.o.d.tx), .sl (last.l.flatMap Op.v) last.l.length 4 tl] → S.n < Sa.n → ¬ ownC c i g Da t1 tka S.n → ¬ ownX x txa S.n →
      last.l.length ≤ 30 → wCode (RSim Tryz.prog w0) r_l16_CopyCrashes_3 fr Sa (resQ [.tmp 8] Q) := by
    intro fr Sa Da t1 tka txa Xa esa f1 f3 f6 f9 f11 f13 Wa hea ca la nCa nXa hl30
    have ex := Wa.hr.ex
    have hxl := Wa.hr.lt
    have hne : ¬ x = Sa.n := by omega
    unfold opsV at ex
    have kb := (Keeps.refl (fun _ => False) Sa).add (.cells [.int .u64 (Xa.T.h : Nat), .int .u64 (Xa.T.s : Nat), .int .u64 (Xa.T.a : Nat), .sl [] 0 4 .nil])
    have cb := kb.cells ca la _root_.id
    have lb := kb.lt la
    have Wb := Wa.stay kb
    have ry0 : RefC (Sa.add (.cells [.int .u64 (Xa.T.h : Nat), .int .u64 (Xa.T.s : Nat), .int .u64 (Xa.T.a : Nat), .sl [] 0 4 .nil])) Sa.n .nil Xa.T [] :=
      ⟨by rw [cells_addc, if_pos rfl]; rfl, fun _ => rfl, by rw [St.add_n]; omega, trivial, Wa.hr.ok, fun o h => (by cases h), by simp⟩
    have exb := Wb.hr.ex
    have eyb := ry0.ex
    unfold opsV at exb eyb
    have nyb : ¬ ownX Sa.n .nil S.n := fun h => by
      rcases h with h | h
      · omega
      · cases h
    simp only [List.flatMap_nil, List.length_nil] at eyb
    simp only [r_l16_CopyCrashes_3, go_sem, f1, f3, f6, f9, f11, f13, ex, hne]
    generalize Sa.add (.cells [.int .u64 (Xa.T.h : Nat), .int .u64 (Xa.T.s : Nat), .int .u64 (Xa.T.a : Nat), .sl [] 0 4 .nil]) = Sb at *
    refine wi_append (n := 0) (cs := []) (t := .nil) (m := Xa.L.length) (xs := Xa.L.flatMap Op.v) (by simp only [go_sem]) (by simp only [go_sem]; exact opsV_elems Xa.L txa Wa.hr.nil _) (fm_len Op.v_len _) (by have := Wa.hr.n; simp [roomOk]; omega) trivial (fun _ => ⟨rfl, rfl⟩) fun tk5 S5 k5 ht5 hn5 hz5 => ?_
    have k50 : Keeps (fun _ => False) Sb S5 := k5.mono fun _ _ h => by cases h
    have ey5 := k50.cells eyb ry0.lt _root_.id
    have c5 := k50.cells cb lb _root_.id
    have l5 := k50.lt lb
    have W5 := Wb.stay k50
    simp only [go_sem, ey5]
    have by_ := ry0.setL (L' := Xa.L) (T' := Xa.T) Wa.hr.ok (k50.mono fun _ _ h => h.elim) ht5 hn5 (fun e => List.eq_nil_of_length_eq_zero (hz5 e).1) Wa.hr.l Wa.hr.n rfl
    unfold opsV at by_
    have k6 : Keeps (fun j => j = Sa.n) S5 (S5.set Sa.n (.cells [.int .u64 (Xa.T.h : Nat), .int .u64 (Xa.T.s : Nat), .int .u64 (Xa.T.a : Nat), .sl (Xa.L.flatMap Op.v) Xa.L.length 4 tk5])) := Keeps.set1 _ _ _
    have hSn : ¬ S.n = Sa.n := by omega
    have c6 := k6.cells c5 l5 hSn
    have l6 := k6.lt l5
    have hc6 := W5.hc.keep k6 fun j hj e => by subst e; have := Wa.hc.own_lt hj; omega
    have hx6 := W5.hr.keep k6 fun j hj e => by subst e; have := Wa.hr.own_lt hj; omega
    have hy6 := by_.w
    have dyc : ∀ j, ownC c i g Da t1 tka j → ¬ ownX Sa.n tk5 j := fun j hj hy => by
      have hjl := Wa.hc.own_lt hj
      rcases hy with h | h
      · omega
      · have := hn5 _ h; have := kb.n; omega
    have dyx : ∀ j, ownX x txa j → ¬ ownX Sa.n tk5 j := fun j hj hy => by
      have hjl := Wa.hr.own_lt hj
      rcases hy with h | h
      · omega
      · have := hn5 _ h; have := kb.n; omega
    have nyl : ¬ ownX Sa.n tk5 S.n := fun hy => by
      rcases hy with h | h
      · omega
      · have := hn5 _ h; omega
    generalize S5.set Sa.n (.cells [.int .u64 (Xa.T.h : Nat), .int .u64 (Xa.T.s : Nat), .int .u64 (Xa.T.a : Nat), .sl (Xa.L.flatMap Op.v) Xa.L.length 4 tk5]) = S6 at *
    simp only [go_sem, f1, f9, cvn, tmn, wn]
    refine wi_call ?_
    simp only [go_sem]
    refine arm_runs hc6.w.d (fun S7 _ d7 k7 => ?_) (fun hneg => by omega)
    have a7 : After S6 i Da S7 { Da with arm := ((1 + n % 4 : Nat) : Int) } := ⟨d7, k7.mono fun j _ e => .inl e, fun j hj => .inl hj⟩
    have C7 := hc6.wal (WAfter.disk hc6.w a7) hc6.ok.r
    have x7 : RefC S7 x txa Xa.T Xa.L := hx6.keep k7 fun j hj e => Wa.dis j (.inl (.inl (.inl e))) hj
    have y7 : RefC S7 Sa.n tk5 Xa.T Xa.L := hy6.keep k7 fun j hj e => dyc j (.inl (.inl (.inl e))) hj
    have hiS : ¬ S.n = i := fun e => nCa (.inl (.inl (.inl e)))
    have c7 := k7.cells c6 l6 hiS
    have l7 := k7.lt l6
    have nC7 : ¬ ownC c i g { Da with arm := ((1 + n % 4 : Nat) : Int) } t1 tka S.n := fun ho => by
      rcases C7.o _ ho with h | h
      · exact nCa h
      · omega
    have hdab : Xa.D = Da.abs := Wa.hc.d
    have Ar : Armed (shardN 0) { Xa with D := (Dk.abs { Da with arm := ((1 + n % 4 : Nat) : Int) }) } esa 4194304 := by
      have hk7 := Wa.hk
      have hv := hk7.v
      have hcl2 := hk7.c
      have ho := hk7.off
      have hr := hk7.room
      rw [hdab] at hv hcl2 ho hr
      exact ⟨⟨hv.nd, hv.only, hv.con⟩, hcl2, ho, hr, hk7.r, hk7.ok, hk7.t, hk7.l, d7.good⟩
    obtain ⟨es', er, hL⟩ := Ar.act n1 n2 hla Wa.hc.ok.t hl30 (by omega)
    have hrl : Xa.R.length = esa.length := by rw [Wa.hk.r, List.length_map]
    have hxl2 : Xa.L.length ≤ esa.length := by rw [Wa.hk.l]; exact (replay_ok esa Wa.hk.ok).2.2
    simp only [go_sem, f6, f11, c7]
    refine wi_call ?_
    simp only [go_sem]
    refine do_runs (a := last) (tl := tl) C7.w y7 (fun j hj hy => ?_) hla htl hl30 (by simp only; omega) (by simp only; omega) (by omega) fun S8 D8 t8 tk8 S9 ty9 a8 b9 => ?_
    · rcases C7.o j hj with h | h
      · exact dyc j h hy
      · have := y7.own_lt hy; have := k7.n; have := hy6.own_lt hy; omega
    have dC7x : ∀ j, ownC c i g { Da with arm := ((1 + n % 4 : Nat) : Int) } t1 tka j → ¬ ownX x txa j := fun j hj hx => by
      rcases C7.o j hj with h | h
      · exact Wa.dis j h hx
      · have := hx6.own_lt hx; omega
    have dC7y : ∀ j, ownC c i g { Da with arm := ((1 + n % 4 : Nat) : Int) } t1 tka j → ¬ ownX Sa.n tk5 j := fun j hj hy => by
      rcases C7.o j hj with h | h
      · exact dyc j h hy
      · have := hy6.own_lt hy; omega
    have x8 : RefC S8 x txa Xa.T Xa.L := x7.keep a8.k fun j hj ho => dC7x j ho hj
    have x9 : RefC S9 x txa Xa.T Xa.L := x8.keep b9.k fun j hj ho => dyx j hj ho
    have hc9 := a8.w.keep b9.k fun j hj ho => by
      rcases a8.o j hj with h | h
      · exact dC7y j h ho
      · have := y7.own_lt ho; omega
    have d9x : ∀ j, ownC c i g D8 t8 tk8 j → ¬ ownX x txa j := fun j hj hx => by
      rcases a8.o j hj with h | h
      · exact dC7x j h hx
      · have := x7.own_lt hx; omega
    have d9y : ∀ j, ownC c i g D8 t8 tk8 j → ¬ ownX Sa.n ty9 j := fun j hj hy => by
      rcases b9.o j hy with h | h
      · rcases a8.o j hj with h2 | h2
        · exact dC7y j h2 h
        · have := y7.own_lt h; omega
      · have := a8.w.own_lt hj; omega
    have hrep : replayAll esa = (Xa.T, Xa.L) := by rw [Wa.hk.t, Wa.hk.l]
    have hhow := hL.how
    simp only at hL hhow a8 hc9 ⊢
    generalize (CS.act { Xa with D := (Dk.abs { Da with arm := ((1 + n % 4 : Nat) : Int) }) } (shardN 0) last) = Z at *
    obtain ⟨f, X8⟩ := Z
    generalize hdd : docDo last (Xa.T, Xa.L) = Y at *
    obtain ⟨d, Ty, Ly⟩ := Y
    simp only at hL hhow a8 hc9 b9 er ⊢
    have hfd : (f != d) = false ∨ (f != d) = true ∧ f = 10 := by
      by_cases e : f = d
      · exact .inl (by simp [e])
      · rcases hhow with ⟨h, _⟩ | ⟨h, _⟩
        · exact absurd h e
        · exact .inr ⟨by simpa using e, h⟩
    have go : ∀ fr' : Fr, fr' 3 = intsV keep kt → fr' 9 = .ptr (some (i, 0)) → fr' 13 = .ptr (some (x, 0)) → fr' 15 = .ptr (some (Sa.n, 0)) → fr' 16 = .int .i64 f → wCode (RSim Tryz.prog w0) r_l16_CopyCrashes_2 fr' S9 (resQ [.tmp 8] Q) := fun fr' g3 g9 g13 g15 g16 =>
      crashes_end hc9 x9 b9.w d9x d9y Wa.hk.ok hrep er hL (by omega) hk g3 g9 g13 g15 g16 hQ
    rcases hfd with q | ⟨q, rfl⟩
    · simp only [go_sem, q]
      refine wc_ite (b := false) (by simp only [go_sem] <;> rfl) (fun h => by cases h) (fun _ => ?_)
      simp only [go_sem]
      exact go _ (by simp only [go_sem, f3]) (by simp only [go_sem, f9]) (by simp only [go_sem, f13]) (by simp only [go_sem]) (by simp only [go_sem])
    · simp only [go_sem, q]
      refine wc_ite (b := false) (by simp only [go_sem] <;> rfl) (fun h => by cases h) (fun _ => ?_)
      simp only [go_sem]
      exact go _ (by simp only [go_sem, f3]) (by simp only [go_sem, f9]) (by simp only [go_sem, f13]) (by simp only [go_sem]) (by simp only [go_sem])
  refine loop_rule RSim.le (k := 20) (fun mm fr Sa => ∃ (j : Nat) (Da : Dk) (t1 tka txa : Tok) (Xa : CS) (esa : List Rec), mm = 20 - j ∧ j ≤ 20 ∧ fr 0 = .sl cs0 A.length 7 ta ∧ fr 1 = .int .u8 (n : Nat) ∧ fr 3 = intsV keep kt ∧ fr 6 = .ptr (some (S.n, 0)) ∧ fr 9 = .ptr (some (i, 0)) ∧ fr 11 = .ptr (some (c, 0)) ∧ fr 13 = .ptr (some (x, 0)) ∧ fr 14 = .int .i64 (j : Nat) ∧
      Two Sa c i g Da (shardN 0) t1 tka Xa esa 4194304 x txa ∧ esa.length ≤ 31 * j ∧ Sa.cells S.n = some [.int .u8 (last.k : Nat), .int .u64 (last.t : Nat), .int .u64 (last.o.t : Nat), .str (mkS last.o.d.id), .int .i64 last.o.d.tm, .str (mkS last.o.d.tx), .sl (last.l.flatMap Op.v) last.l.length 4 tl] ∧ S.n < Sa.n ∧ ¬ ownC c i g Da t1 tka S.n ∧ ¬ ownX x txa S.n) ?_
    ⟨0, D2, t, tk, .nil, X, [], rfl, by omega, by simp only [go_sem], by simp only [go_sem], by simp only [go_sem], by simp only [go_sem], by simp only [go_sem], by simp only [go_sem], by simp only [go_sem, hx], by simp only [go_sem]; rfl, W, by simp, c3, l3, nC, nX⟩
  clear hk' hc W nC nX
  rintro mm fr Sa ⟨j, Da, t1, tka, txa, Xa, esa, hm, hj, f0, f1, f3, f6, f9, f11, f13, f14, Wa, hea, ca, la, nCa, nXa⟩
  simp only [l_l16_CopyCrashes_0, go_sem, f0, f14]
  by_cases hlt : j < A.length ∧ j < 20
  · have q1 : decide ((j : Int) < (A.length : Int)) = true := decide_eq_true (by omega)
    have q2 : decide ((j : Int) < 20) = true := decide_eq_true (by omega)
    obtain ⟨a, ha⟩ : ∃ a, A[j]? = some a := ⟨_, List.getElem?_eq_getElem hlt.1⟩
    obtain ⟨tla, rest, dx, htla, hao, hjl, hne⟩ := hat ha
    have ja : (j < A.length) = True := eq_true hlt.1
    have na : (ta = .nil) = False := eq_false hne
    have w1 : IntKind.i64.wrap ((j : Int) + 1) = ((j + 1 : Nat) : Int) := by rw [w64 (by omega) (by omega)]; omega
    have q3 : decide ((a.l.length : Int) > 30) = decide (30 < a.l.length) := decide_eq_decide.mpr (by omega)
    have e7a : takeC true 7 (a.v tla ++ rest) = some (.agg (a.v tla)) := by simp [takeC, CAct.v, opsV]
    simp only [CAct.v, opsV, List.cons_append, List.nil_append] at dx e7a
    simp only [go_sem, q1, q2, f14]
    refine wc_ite (b := true) (by simp only [go_sem] <;> rfl) (fun _ => ?_) (fun h => by cases h)
    simp only [go_sem, r_l16_CopyCrashes_0, f0, f14, dx, ja, na, q3]
    refine wc_ite (b := decide (30 < a.l.length)) (by simp only [go_sem]) (fun hc => ?_) (fun hc => ?_)
    · simp only [go_sem]
      exact hQ _
    have hl30 := of_decide_eq_false hc
    simp only [go_sem, f0, f11, f13, f14, dx, ja, na]
    refine wi_call ?_
    simp only [go_sem]
    refine do_calm' (a := a) (tl := tla) Wa n1 n2 hao htla (by omega) (by omega) (by omega) fun Se De te tke Xe ese txe We eT eL hes ke oe ox => ?_
    have ce := ke.cells ca la fun h => h.elim nCa nXa
    have le := ke.lt la
    have nCe : ¬ ownC c i g De te tke S.n := fun ho => by
      rcases oe _ ho with h | h
      · exact nCa h
      · omega
    simp only [go_sem, f14, w1]
    refine ⟨20 - (j + 1), by omega, j + 1, De, te, tke, txe, Xe, ese, rfl, by omega, f0, f1, f3, f6, f9, f11, f13, rfl, We, by omega, ce, le, nCe, fun ho => ?_⟩
    rcases ox _ ho with h | h
    · exact nXa h
    · omega
  · by_cases hj1 : j < A.length
    · have q1 : decide ((j : Int) < (A.length : Int)) = true := decide_eq_true (by omega)
      have q2 : decide ((j : Int) < 20) = false := decide_eq_false (by omega)
      simp only [go_sem, q1, q2, f14]
      refine wc_ite (b := false) (by simp only [go_sem] <;> rfl) (fun h => by cases h) (fun _ => ?_)
      simp only [go_sem, f6, ca, q30]
      refine wc_ite (b := decide (30 < last.l.length)) (by simp only [go_sem]) (fun hc => ?_) (fun hc => ?_)
      · simp only [go_sem]
        exact hQ _
      · have hl30 := of_decide_eq_false hc
        simp only [go_sem]
        exact fin _ Sa Da t1 tka txa Xa esa (by simp only [go_sem, f1]) (by simp only [go_sem, f3]) (by simp only [go_sem, f6]) (by simp only [go_sem, f9]) (by simp only [go_sem, f11]) (by simp only [go_sem, f13]) Wa (by omega) ca la nCa nXa (by omega)
    · have q1 : decide ((j : Int) < (A.length : Int)) = false := decide_eq_false (by omega)
      simp only [go_sem, q1, f14]
      refine wc_ite (b := false) (by simp only [go_sem] <;> rfl) (fun h => by cases h) (fun _ => ?_)
      simp only [go_sem, f6, ca, q30]
      refine wc_ite (b := decide (30 < last.l.length)) (by simp only [go_sem]) (fun hc => ?_) (fun hc => ?_)
      · simp only [go_sem]
        exact hQ _
      · have hl30 := of_decide_eq_false hc
        simp only [go_sem]
        exact fin _ Sa Da t1 tka txa Xa esa (by simp only [go_sem, f1]) (by simp only [go_sem, f3]) (by simp only [go_sem, f6]) (by simp only [go_sem, f9]) (by simp only [go_sem, f11]) (by simp only [go_sem, f13]) Wa (by omega) ca la nCa nXa (by omega)
end Go.VM
