/-
  A copy on a disk with power: what its calls come to; awake.
  awake; CopyNil. NEWPP
-/
import Derived.Test.YtegaflmefmlpgaaGreatDoorCOpen
set_option maxRecDepth 20000
set_option linter.unusedVariables false
set_option linter.unusedSimpArgs false
namespace Go.VM
open Go Go.RowKit Go.Proofs

structure Calm (s : List UInt8) (X : CS) (es : List Rec) (room : Int) : Prop where
  v : WD X.D s (fileB X.R) (fileB X.R).length
  c : X.D.clean s
  off : X.D.off = false
  arm : X.D.arm = 0
  room : X.D.room = room
  r : X.R = es.map Rec.b
  ok : ∀ e ∈ es, e.Ok
  t : X.T = (replayAll es).1
  l : X.L = (replayAll es).2

theorem Calm.more {s : List UInt8} {X : CS} {es : List Rec} {room : Int} (h : Calm s X es room) (g : X.D.Good) (hn : nameOk s = true) {e : Rec} (he : e.Ok) (hr : ((fileB X.R).length : Int) + (frameB e.b).length ≤ room) :
    (X.D.grow s (frameB e.b) false).1 = 0 ∧ ∃ D2, (X.D.grow s (frameB e.b) false).2.syncL s (X.R ++ [e.b]) = (0, D2) ∧ Calm s ⟨D2, X.R ++ [e.b], (e.on (X.T, X.L)).1, (e.on (X.T, X.L)).2⟩ (es ++ [e]) room := by
  obtain ⟨b1, b2⟩ := begun_calm h.arm
  obtain ⟨e1, e2, e3, e4, e5, e6⟩ := grow_eff (f := frameB e.b) h.v g h.c hn h.off (by rw [h.room]; exact hr)
  rw [if_neg (by rw [b1]; decide)] at e1
  rw [b1] at e4
  rw [b2] at e5
  rw [← fileB_snoc] at e2
  obtain ⟨c1, c2⟩ := begun_calm e5
  have hd : (X.D.grow s (frameB e.b) false).2.syncL s (X.R ++ [e.b]) = (0, ((X.D.grow s (frameB e.b) false).2.sync s).2) ∧ WD ((X.D.grow s (frameB e.b) false).2.sync s).2 s (fileB (X.R ++ [e.b])) (fileB (X.R ++ [e.b])).length ∧ ((X.D.grow s (frameB e.b) false).2.sync s).2.clean s ∧ ((X.D.grow s (frameB e.b) false).2.sync s).2.off = false ∧ ((X.D.grow s (frameB e.b) false).2.sync s).2.arm = 0 ∧ ((X.D.grow s (frameB e.b) false).2.sync s).2.room = X.D.room := by
    rcases sync_eff e2 hn e4 with ⟨h1, h2, h3, h4⟩ | ⟨h1, _⟩ | ⟨_, h1, h2, h3, h4, h5, h6⟩
    · exfalso
      have := fileB_nil h3
      simp at this
    · rw [c1] at h1; cases h1
    · refine ⟨?_, h2, h3 e3, h4, h5.trans c2, h6.trans e6⟩
      unfold DS.syncL
      rw [h1, if_neg (by rintro ⟨h, _⟩; cases h)]
  obtain ⟨d1, d2, d3, d4, d5, d6⟩ := hd
  refine ⟨e1, _, d1, ⟨d2, d3, d4, d5, d6.trans h.room, by simp [h.r], fun x hx => ?_, ?_, ?_⟩⟩
  · rcases List.mem_append.1 hx with hx | hx
    · exact h.ok x hx
    · rw [List.mem_singleton.1 hx]; exact he
  · rw [replay_snoc, h.t, h.l]
  · rw [replay_snoc, h.t, h.l]
theorem Calm.mark {s : List UInt8} {X : CS} {es : List Rec} {room : Int} (h : Calm s X es room) (g : X.D.Good) (hn : nameOk s = true) {T : Tm} (hT : T.Ok) (hr : ((fileB X.R).length : Int) + (frameB (recB T)).length ≤ room) :
    ∃ D2, X.mark s T = (0, ⟨D2, X.R ++ [recB T], T, X.L⟩) ∧ Calm s ⟨D2, X.R ++ [recB T], T, X.L⟩ (es ++ [.f T]) room := by
  obtain ⟨e1, D2, e2, e3⟩ := h.more g hn (e := .f T) hT hr
  refine ⟨D2, ?_, e3⟩
  unfold CS.mark
  simp only [Rec.b] at e1 e2
  rw [if_neg (by rw [e1]; simp)]
  simp only [e2, if_true]
theorem Calm.app {s : List UInt8} {X : CS} {es : List Rec} {room : Int} (h : Calm s X es room) (g : X.D.Good) (hn : nameOk s = true) {o : Op} (ho : o.Ok) (hf : o.d.form = true) (ht : o.t = X.T.h ∧ o.t = X.T.a) (hr : ((fileB X.R).length : Int) + (frameB (entB o)).length ≤ room) :
    ∃ D2, X.app s o = (0, ⟨D2, X.R ++ [entB o], X.T, X.L ++ [o]⟩) ∧ Calm s ⟨D2, X.R ++ [entB o], X.T, X.L ++ [o]⟩ (es ++ [.o o]) room := by
  obtain ⟨e1, D2, e2, e3⟩ := h.more g hn (e := .o o) ⟨ho, hf⟩ hr
  refine ⟨D2, ?_, e3⟩
  unfold CS.app
  simp only [Rec.b] at e1 e2
  rw [if_neg (by rw [hf]; simp), if_neg (by rintro (h | h); exact h ht.1; exact h ht.2), if_neg (by rw [e1]; simp)]
  simp only [e2, if_true]
theorem Calm.full {s : List UInt8} {X : CS} {es : List Rec} {room : Int} (h : Calm s X es room) (g : X.D.Good) (hn : nameOk s = true) {f : List UInt8} (hr : room < ((fileB X.R).length : Int) + f.length) : X.D.grow s f false = (11, X.D) := by
  have hu := h.v.used g h.c
  have hro := h.room
  unfold DS.grow
  rw [if_neg (by rw [hn]; simp), if_neg (by rw [h.off]; simp), if_neg (by simp), if_pos (by omega)]
theorem CopyAt.good {S : St} {c i g : Nat} {D : Dk} {s : List UInt8} {t tk : Tok} {X : CS} (h : CopyAt S c i g D s t tk X) : X.D.Good := by rw [h.d]; exact h.w.d.good

/-- Open of a whole log. -/
theorem walOpen_whole {w0 : World} {S : St} {Q : AEnd → St → Prop} {i : Nat} {D : Dk} {s : List UInt8} {R : List (List UInt8)} {q : Nat} {room : Int} (h : Dg S i D s (fileB R) q room) (hs : nameOk s = true) (hs' : nameOk (newN s) = true) (hsl : s.length ≤ 28) (hR : shortL R)
    (hQ : ∀ S' D' g t, OAfter S i D S' g D' t s R → (WD D'.abs s (fileB R) q ∧ D'.abs.clean s ∧ D'.abs.off = false ∧ D'.abs.arm = 0 ∧ D'.abs.room = room) → Q (.ret (.tup [.ptr (some (g, 0)), .int .i64 0])) S') : RSim Tryz.prog w0 n_wal_Open [.ptr (some (i, 0)), .str (mkS s)] S Q := by
  have g0 := h.d.good
  have hrm := g0.room
  obtain ⟨e1, v1, c1, o1, a1, r1⟩ := opened_eff h.v hs' h.off h.arm
  obtain ⟨y1, y2, y3⟩ := v1.bytes hs o1
  have hsc := scans_file hR
  have hle : (fileB R).length ≤ 1000000000 := by
    have hu : ∀ {l : List File} {x : File}, findF s l = some x → x.p.length ≤ sumF l := by
      intro l x
      induction l with
      | nil => intro h; cases h
      | cons y r ih =>
        intro hf
        unfold findF at hf
        split at hf
        · injection hf with hf; subst hf; simp [sumF]
        · have := ih hf; simp only [sumF, List.map_cons, List.sum_cons] at this ⊢; omega
    have hc := h.v.con
    unfold Go.VM.con at hc
    split at hc
    · rename_i x hx
      injection hc with h1 h2
      have := hu hx
      have hg := g0.used
      have hro := h.d.wf.fits
      rw [← h1]
      have hus : D.abs.used = D.used := rfl
      have hrr := h.d.wf.room
      omega
    · injection hc with h1 h2
      rw [← h1]; simp
  refine open_runs h.d hs hsl e1 y2 (by rw [y1]; exact hle) (fun L' n' hsc' hlt => ?_) fun S1 D1 g t L' n' hsc' hle' O a => ?_
  · rw [y1] at hsc' hlt
    obtain ⟨rfl, rfl⟩ := hsc.det hsc'
    omega
  · rw [y1] at hsc' a hle'
    obtain ⟨rfl, rfl⟩ := hsc.det hsc'
    rw [if_neg (by omega)] at a
    rw [← a] at v1 c1 o1 a1 r1
    exact hQ S1 D1 g t O ⟨v1, c1, o1, a1, r1.trans h.room⟩
theorem shardN_ok {n : Nat} (h : n < 8) : nameOk (shardN n) = true ∧ nameOk (newN (shardN n)) = true := by
  have : ∀ n : Fin 8, nameOk (shardN n.val) = true ∧ nameOk (newN (shardN n.val)) = true := by decide
  exact this ⟨n, h⟩
theorem recs_short {es : List Rec} (h : ∀ e ∈ es, e.Ok) : shortL (es.map Rec.b) := fun r hr => by
  obtain ⟨e, he, rfl⟩ := List.mem_map.1 hr
  have := rec_len (h e he); omega
theorem copyOpen_calm {w0 : World} {S : St} {Q : AEnd → St → Prop} {i n : Nat} {D : Dk} {es : List Rec} {room : Int} (hn : n < 8) (hes : ∀ e ∈ es, e.Ok) (hel : es.length < 1000000) (h : Dg S i D (shardN n) (fileB (es.map Rec.b)) (fileB (es.map Rec.b)).length room)
    (hQ : ∀ S' c D' g t tk X, CopyAt S' c i g D' (shardN n) t tk X → Calm (shardN n) X es room → X = ⟨D'.abs, es.map Rec.b, (replayAll es).1, (replayAll es).2⟩ → Keeps (ownD i D) S S' → (∀ j, ownC c i g D' t tk j → ownD i D j ∨ S.n ≤ j) → Q (.ret (.tup [.ptr (some (c, 0)), .int .i64 0])) S') :
    RSim Tryz.prog w0 n_copy_Open [.ptr (some (i, 0)), .int .i64 n] S Q := by
  obtain ⟨n1, n2⟩ := shardN_ok hn
  refine copyOpen_runs hn hes hel (fun Q' hQ' => walOpen_whole h n1 n2 (show 7 ≤ 28 by decide) (recs_short hes) hQ') fun S' c D' g t tk hc ⟨p1, p2, p3, p4, p5⟩ k o => ?_
  exact hQ S' c D' g t tk _ hc ⟨p1, p2, p3, p4, p5, rfl, hes, rfl, rfl⟩ rfl k o
end Go.VM

namespace Go.VM
open Go Go.RowKit Go.Proofs

theorem copyAwake_runs {w0 : World} {S : St} {Q : AEnd → St → Prop} (hQ : ∀ S', Keeps (fun _ => False) S S' → Q (.ret (.bool true)) S') : RSim Tryz.prog w0 n_l16_awake [] S Q := by
  obtain ⟨n1, n2⟩ := shardN_ok (n := 0) (by decide)
  refine RSim.run mixed k_l16_awake ?_ (by simp)
  simp only [b_l16_awake, go_sem]
  refine wi_call ?_
  simp only [go_sem]
  refine new_ok (shardN 0) (by decide) (by decide) fun S1 i D d hcl ho' k1 => ?_
  simp only [go_sem]
  refine wi_call ?_
  simp only [go_sem]
  refine copyOpen_calm (n := 0) (es := []) (room := 1000) (by decide) (fun e h => by cases h) (by decide) d fun S2 c D2 g t tk X hc hk hX k2 o2 => ?_
  subst hX
  have lr : (frameB (recB ⟨1, 1, 1⟩)).length ≤ 40 := by
    have hT : (⟨1, 1, 1⟩ : Tm).Ok := ⟨by decide, by decide, by decide⟩
    have h1 := recB_len hT
    have h2 := frameB_le (r := recB ⟨1, 1, 1⟩) (by omega)
    omega
  have l0 : fileB ([] : List (List UInt8)) = [] := rfl
  have ho : (⟨1, ⟨[97], 0, []⟩⟩ : Op).Ok := ⟨by decide, ⟨by decide, by decide, by decide, by decide⟩⟩
  have hf : (⟨1, ⟨[97], 0, []⟩⟩ : Op).d.form = true := by decide
  have le : (frameB (entB ⟨1, ⟨[97], 0, []⟩⟩)).length ≤ 609 := by
    have h1 := entB_len ho hf
    have h2 := frameB_le (r := entB ⟨1, ⟨[97], 0, []⟩⟩) (by omega)
    omega
  obtain ⟨E1, m1, q1⟩ := hk.mark hc.good n1 (T := ⟨1, 1, 1⟩) ⟨by decide, by decide, by decide⟩ (by simp only [List.map_nil, l0, List.length_nil]; omega)
  have sv : CS.serve ⟨D2.abs, List.map Rec.b [], (replayAll []).1, (replayAll []).2⟩ (shardN 0) 1 = _ := (if_neg (by rintro (h | h); exact absurd (show 1 < 0 from h) (by decide); exact absurd (show 1 ≤ 0 from h) (by decide))).trans m1
  simp only [go_sem]
  refine wi_call ?_
  simp only [go_sem]
  refine serve_runs (n := 1) hc (by decide) (show 0 < 1000000 by decide) fun S3 D3 t3 tk3 a3 => ?_
  rw [sv] at a3
  rw [sv]
  simp only [go_sem]
  refine wi_call ?_
  simp only [go_sem]
  have l1 : fileB ([] ++ [recB ⟨1, 1, 1⟩]) = frameB (recB ⟨1, 1, 1⟩) := by simp [fileB]
  obtain ⟨E2, m2, q2⟩ := q1.app a3.w.good n1 ho hf ⟨rfl, rfl⟩ (by simp only [List.map_nil, l1]; omega)
  refine capp_runs (o := ⟨1, ⟨[97], 0, []⟩⟩) a3.w ho (show 1 < 1000000 by decide) (show 0 < 1000000 by decide) fun S4 D4 t4 tk4 a4 => ?_
  rw [m2] at a4
  rw [m2]
  simp only [go_sem]
  refine wi_call ?_
  simp only [go_sem]
  refine copyLen_runs a4.w ?_
  have hL : ((((replayAll []).2 ++ [(⟨1, ⟨[97], 0, []⟩⟩ : Op)]).length : Nat) : Int) = 1 := rfl
  simp only [hL]
  simp only [go_sem]
  refine wi_call ?_
  simp only [go_sem]
  refine copyTerms_runs a4.w fun S5 k5 => ?_
  simp only [Tm.v]
  simp only [go_sem]
  have o1 := fun j (hj : ownC c i g D2 t tk j) => (o2 j hj).elim (ho' j) fun h => Nat.le_trans k1.n h
  have K2 : Keeps (fun _ => False) S S2 := keeps_new k1 k2 ho'
  have K3 : Keeps (fun _ => False) S S3 := keeps_new K2 a3.k o1
  have K4 : Keeps (fun _ => False) S S4 := keeps_new K3 a4.k fun j hj => (a3.o j hj).elim (o1 j) fun h => Nat.le_trans K2.n h
  exact hQ S5 (K4.trans k5 fun _ _ h => h)

end Go.VM
