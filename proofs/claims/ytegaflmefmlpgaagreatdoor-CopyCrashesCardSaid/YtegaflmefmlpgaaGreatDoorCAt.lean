/-
  A copy in memory: its log, its entries, its terms; what it does, in plain Lean; Len, Ops, Terms, mark. NEWPP
-/
import Derived.Test.YtegaflmefmlpgaaGreatDoorCDec
import Derived.Test.YtegaflmefmlpgaaGreatDoorWOk
import Derived.Test.YtegaflmefmlpgaaGreatDoorVmRow
set_option maxRecDepth 20000
set_option linter.unusedVariables false
set_option linter.unusedSimpArgs false
namespace Go.VM
open Go Go.RowKit Go.Proofs

/-- The terms. -/
structure Tm where
  h : Nat
  s : Nat
  a : Nat
def Tm.v (T : Tm) : List V := [.int .u64 (T.h : Nat), .int .u64 (T.s : Nat), .int .u64 (T.a : Nat)]
structure Tm.Ok (T : Tm) : Prop where
  h : T.h < 18446744073709551616
  s : T.s < 18446744073709551616
  a : T.a < 18446744073709551616
def opsV (L : List Op) (tk : Tok) : V := .sl (L.flatMap Op.v) L.length 4 tk
def recB (T : Tm) : List UInt8 := 70 :: (uvar T.h ++ uvar T.s ++ uvar T.a)
def entB (o : Op) : List UInt8 := 79 :: encB o

/-- A copy: its disk, its log's records, its terms, its entries. -/
structure CS where
  D : DS
  R : List (List UInt8)
  T : Tm
  L : List Op
structure CS.Ok (X : CS) : Prop where
  t : X.T.Ok
  l : ∀ o ∈ X.L, o.Ok
  n : X.L.length ≤ 1000000
  r : X.R.length ≤ 1000000

structure CopyAt (S : St) (c i g : Nat) (D : Dk) (s : List UInt8) (t tk : Tok) (X : CS) : Prop where
  w : WalAt S i g D s X.R t
  d : X.D = D.abs
  ex : S.cells c = some [.ptr (some (g, 0)), opsV X.L tk, .int .u64 (X.T.h : Nat), .int .u64 (X.T.s : Nat), .int .u64 (X.T.a : Nat)]
  nil : tk = .nil → X.L = []
  lt : c < S.n
  tok : TokOk S tk
  no : ∀ j, (j = c ∨ tk = .at j) → ¬ ownW i g D t j
  ok : X.Ok
def ownC (c i g : Nat) (D : Dk) (t tk : Tok) : Nat → Prop := fun j => ownW i g D t j ∨ j = c ∨ tk = .at j
/-- A copy behind some calls. -/
structure CAfter (S : St) (c i g : Nat) (D : Dk) (t tk : Tok) (S' : St) (D' : Dk) (t' tk' : Tok) (s : List UInt8) (X' : CS) : Prop where
  w : CopyAt S' c i g D' s t' tk' X'
  k : Keeps (ownC c i g D t tk) S S'
  o : ∀ j, ownC c i g D' t' tk' j → ownC c i g D t tk j ∨ S.n ≤ j

section
variable {S S' : St} {c i g : Nat} {D D' : Dk} {s : List UInt8} {t tk t' tk' : Tok} {X X' : CS}
theorem CopyAt.tk_ne (h : CopyAt S c i g D s t tk X) : tk ≠ .at c := tok_cells h.tok (hp_cells h.ex) (by simp)
theorem CopyAt.own_lt (h : CopyAt S c i g D s t tk X) {j : Nat} (hj : ownC c i g D t tk j) : j < S.n := by
  rcases hj with hj | rfl | rfl
  · exact h.w.own_lt hj
  · exact h.lt
  · exact h.tok.1
theorem CopyAt.keep {o : Nat → Prop} (h : CopyAt S c i g D s t tk X) (k : Keeps o S S') (ho : ∀ j, ownC c i g D t tk j → ¬ o j) : CopyAt S' c i g D s t tk X :=
  ⟨h.w.keep k fun j hj => ho j (.inl hj), h.d, k.cells h.ex h.lt (ho c (.inr (.inl rfl))), h.nil, k.lt h.lt, h.tok.keep k fun j hj => ho j (.inr (.inr hj)), h.no, h.ok⟩
theorem CopyAt.stay (h : CopyAt S c i g D s t tk X) (k : Keeps (fun _ => False) S S') : CopyAt S' c i g D s t tk X := h.keep k fun _ _ => id
theorem CAfter.refl (h : CopyAt S c i g D s t tk X) : CAfter S c i g D t tk S D t tk s X := ⟨h, Keeps.refl _ _, fun _ h => .inl h⟩
theorem CAfter.new (h : CopyAt S c i g D s t tk X) (k : Keeps (fun _ => False) S S') : CAfter S c i g D t tk S' D t tk s X := ⟨h.stay k, k.mono fun _ _ h => h.elim, fun _ h => .inl h⟩
theorem CAfter.trans {S1 S2 : St} {D1 D2 : Dk} {t1 t2 k1 k2 : Tok} {X1 X2 : CS} (h : CAfter S c i g D t tk S1 D1 t1 k1 s X1) (h' : CAfter S1 c i g D1 t1 k1 S2 D2 t2 k2 s X2) : CAfter S c i g D t tk S2 D2 t2 k2 s X2 :=
  ⟨h'.w, h.k.trans h'.k fun j hj ho => (h.o j ho).elim id fun h => by omega, fun j hj => (h'.o j hj).elim (h.o j) fun h1 => .inr (Nat.le_trans h.k.n h1)⟩
/-- The log has turned; the copy's own cells have not. -/
theorem CopyAt.wal {R' : List (List UInt8)} (h : CopyAt S c i g D s t tk X) (a : WAfter S i g D t S' D' t' s R') (hr : R'.length ≤ 1000000) : CAfter S c i g D t tk S' D' t' tk s { X with D := D'.abs, R := R' } := by
  have hc : ¬ ownW i g D t c := h.no c (.inl rfl)
  refine ⟨⟨a.w, rfl, a.k.cells h.ex h.lt hc, h.nil, a.k.lt h.lt, h.tok.keep a.k fun j hj => h.no j (.inr hj), fun j hj ho => ?_, ⟨h.ok.t, h.ok.l, h.ok.n, hr⟩⟩, a.k.mono fun _ _ h => .inl h, fun j hj => ?_⟩
  · have hl : j < S.n := h.own_lt (.inr hj)
    rcases a.o j ho with h1 | h1
    · exact h.no j hj h1
    · omega
  · rcases hj with hj | hj
    · exact (a.o j hj).elim (fun h => .inl (.inl h)) .inr
    · exact .inl (.inr hj)
/-- The terms are others. -/
theorem CopyAt.setT (h : CopyAt S c i g D s t tk X) {T : Tm} (hT : T.Ok) {cs : List V} (hcs : cs = [.ptr (some (g, 0)), opsV X.L tk, .int .u64 (T.h : Nat), .int .u64 (T.s : Nat), .int .u64 (T.a : Nat)]) :
    CAfter S c i g D t tk (S.set c (.cells cs)) D t tk s { X with T := T } := by
  subst hcs
  have k := Keeps.set1 S c (.cells [.ptr (some (g, 0)), opsV X.L tk, .int .u64 (T.h : Nat), .int .u64 (T.s : Nat), .int .u64 (T.a : Nat)])
  refine ⟨⟨h.w.keep k fun j hj e => h.no j (.inl e) hj, h.d, by rw [cells_setc, if_pos rfl], h.nil, h.lt, h.tok.keep k fun j hj e => h.tk_ne (by rw [hj, e]), h.no, ⟨hT, h.ok.l, h.ok.n, h.ok.r⟩⟩, k.mono fun _ _ e => .inr (.inl e), fun _ h => .inl h⟩
end

theorem opsV_elems (L : List Op) (tk : Tok) (h : tk = .nil → L = []) (S : St) : (opsV L tk).elems S 4 = some (L.length, L.flatMap Op.v) := by
  unfold opsV
  simp only [V.elems, if_true]
  split
  · rename_i e; rw [h e]; rfl
  · rfl

theorem copyLen_runs {w0 : World} {S : St} {Q : AEnd → St → Prop} {c i g : Nat} {D : Dk} {s : List UInt8} {t tk : Tok} {X : CS} (h : CopyAt S c i g D s t tk X) (hQ : Q (.ret (.int .i64 X.L.length)) S) : RSim Tryz.prog w0 n_copy_Copy_Len [.ptr (some (c, 0))] S Q := by
  have ex := h.ex
  unfold opsV at ex
  refine RSim.run mixed k_copy_Copy_Len ?_ (by simp)
  simp only [b_copy_Copy_Len, go_sem]
  refine wc_ite (b := false) (by simp only [go_sem] <;> rfl) (fun h => by cases h) (fun _ => ?_)
  simp only [go_sem, ex]
  exact hQ
theorem copyLen_nil {w0 : World} {S : St} {Q : AEnd → St → Prop} (hQ : Q (.ret (.int .i64 0)) S) : RSim Tryz.prog w0 n_copy_Copy_Len [.ptr none] S Q := by
  refine RSim.run mixed k_copy_Copy_Len ?_ (by simp)
  simp only [b_copy_Copy_Len, go_sem]
  refine wc_ite (b := true) (by simp only [go_sem] <;> rfl) (fun _ => ?_) (fun h => by cases h)
  simp only [go_sem]
  exact hQ
theorem copyTerms_runs {w0 : World} {S : St} {Q : AEnd → St → Prop} {c i g : Nat} {D : Dk} {s : List UInt8} {t tk : Tok} {X : CS} (h : CopyAt S c i g D s t tk X) (hQ : ∀ S', Keeps (fun _ => False) S S' → Q (.ret (.agg X.T.v)) S') : RSim Tryz.prog w0 n_copy_Copy_Terms [.ptr (some (c, 0))] S Q := by
  have ex := h.ex
  have hl := h.lt
  have hne : ¬ c = S.n := by omega
  refine RSim.run mixed k_copy_Copy_Terms ?_ (by simp)
  simp only [b_copy_Copy_Terms, go_sem]
  refine wc_ite (b := false) (by simp only [go_sem] <;> rfl) (fun h => by cases h) (fun _ => ?_)
  simp only [go_sem, ex, hne]
  exact hQ _ (((Keeps.refl _ S).add _).set (.inr (Nat.le_refl _)) _)
theorem copyTerms_nil {w0 : World} {S : St} {Q : AEnd → St → Prop} (hQ : ∀ S', Keeps (fun _ => False) S S' → Q (.ret (.agg [.int .u64 0, .int .u64 0, .int .u64 0])) S') : RSim Tryz.prog w0 n_copy_Copy_Terms [.ptr none] S Q := by
  refine RSim.run mixed k_copy_Copy_Terms ?_ (by simp)
  simp only [b_copy_Copy_Terms, go_sem]
  refine wc_ite (b := true) (by simp only [go_sem] <;> rfl) (fun _ => ?_) (fun h => by cases h)
  simp only [go_sem]
  exact hQ _ (((Keeps.refl _ S).add _).set (.inr (Nat.le_refl _)) _)
theorem copyOps_runs {w0 : World} {S : St} {Q : AEnd → St → Prop} {c i g : Nat} {D : Dk} {s : List UInt8} {t tk : Tok} {X : CS} (h : CopyAt S c i g D s t tk X) (hQ : ∀ S' tv, (tv = .nil → X.L = []) → Keeps (fun _ => False) S S' → Q (.ret (opsV X.L tv)) S') : RSim Tryz.prog w0 n_copy_Copy_Ops [.ptr (some (c, 0))] S Q := by
  have ex := h.ex
  have hn := h.ok.n
  refine RSim.run mixed k_copy_Copy_Ops ?_ (by simp)
  simp only [b_copy_Copy_Ops, go_sem]
  refine wc_ite (b := false) (by simp only [go_sem] <;> rfl) (fun h => by cases h) (fun _ => ?_)
  simp only [go_sem, ex]
  refine wi_append (n := 0) (cs := []) (t := .nil) (m := X.L.length) (xs := X.L.flatMap Op.v) (by simp only [go_sem]) (by simp only [go_sem]; exact opsV_elems _ _ h.nil _) (fm_len Op.v_len _) (by simp [roomOk]; omega) trivial (fun _ => ⟨rfl, rfl⟩) fun t' S' k' ht' hn' hz => ?_
  have e : V.sl ([] ++ X.L.flatMap Op.v) (0 + X.L.length) 4 t' = opsV X.L t' := by rw [Nat.zero_add]; rfl
  simp only [go_sem]
  have := hQ S' t' (fun e => List.eq_nil_of_length_eq_zero (hz e).1) (k'.mono fun _ _ h => by cases h)
  simpa [opsV] using this
theorem copyOps_nil {w0 : World} {S : St} {Q : AEnd → St → Prop} (hQ : Q (.ret (.sl [] 0 4 .nil)) S) : RSim Tryz.prog w0 n_copy_Copy_Ops [.ptr none] S Q := by
  refine RSim.run mixed k_copy_Copy_Ops ?_ (by simp)
  simp only [b_copy_Copy_Ops, go_sem]
  refine wc_ite (b := true) (by simp only [go_sem] <;> rfl) (fun _ => ?_) (fun h => by cases h)
  simp only [go_sem]
  exact hQ
end Go.VM
